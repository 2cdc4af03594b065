/- lemmas -/
import Derived.Test.YthkaekjoemhjaaaGreatDoorP2
set_option maxRecDepth 100000
set_option maxHeartbeats 40000000
set_option linter.unusedVariables false
set_option linter.unusedSimpArgs false
set_option linter.unusedSectionVars false
set_option linter.defProp false
namespace Go.Proofs.YthkaekjoemhjaaaGreatDoor
open Go.SL
def AKT (ω:Om)(a0 a1:Value)(K:Value→M):M:=Pv (lenV a0) λa=>Aw ((I0,I0,()):Value×Value×Unit) λs b=>AAF ω a0 a1 a s.1 s.2.1 b K
variable {ω:Om}{K:Value→M}{I:Imm}{L:LH}{a0 a1 a2 a3 a4 a5 a6 a7 a8:Value}
def AOI:=zkc2 AKT 140 Tryz.func140
def AKS (ω:Om)(a0 a1:Value)(K:Value→M):M:=ExtE Tryz.prog ω Extern.BytealgIndexByte.indexByte #[a0,a1]<|gh λa=>K a
def AOH:=zkc2 AKS 141 Tryz.func141
def AAD (ω:Om)(p2 p3:Value)(K:Value→M):M:=Rn (AO 256 p2) λa=>Sto 256 p2 a<|gh λ_=>Rn (AO 256 p2) λa=>K (Value.tuple #[a,Bt])
def AAE (ω:Om)(p0 p2:Value)(x3 x4:Value)(Kn0:(Value×Value×Unit)→M)(K:Value→M):M:=Pv (CG p0) λa=>Pv (AA .lss x4 a) λa=>Br a (Pv (Fq p0 x4) λa=>Pv (AA .geq a (.int .u8 128)) λb=>Br b (Rn (AO 256 p2) λa=>Sto 256 p2 a<|gh λ_=>Rn (AO 256 p2) λa=>K (Value.tuple #[a,Bf])) (Pv (MZ 1 256 p2 a) λa=>Sto 1 a Bt<|gh λ_=>Pv (AA .add x4 (.int .i64 1)) λa=>Kn0 (x3,a,()))) (AAD ω p2 x3 K)
def AKR (ω:Om)(a0:Value)(K:Value→M):M:=New (.cells Za1 232 (0,0))<|gh λas_1=>Aw ((Bf,I0,()):Value×Value×Unit) λs Kn0=>AAE ω a0 as_1 s.1 s.2.1 Kn0 K
def AOG:=zkc1 AKR 144 Tryz.func144
def AAC (ω:Om)(p1 p4 x0:Value)(Kn0:(Value×Unit)→M)(K:Value→M):M:=Pv (CG x0) λa=>Pv (AA .gtr a I0) λa=>Br a (Pv (Fq x0 I0) λa=>CT ω 178 #[p1,a]<|gh λa=>Pv (unV .not a) λa=>Br a (K x0) (Pv (EM x0 (some (.int .i64 1)) none) λa=>Kn0 (a,()))) (K x0)
def AKQ (ω:Om)(a0 a1:Value)(K:Value→M):M:=Aw ((a0,()):Value×Unit) λs Kn0=>AAC ω a1 Q0 s.1 Kn0 K
def AOF:=zkc2 AKQ 145 Tryz.func145
def AAB (ω:Om)(p1 p4 x0:Value)(Kn0:(Value×Unit)→M)(K:Value→M):M:=Pv (CG x0) λa=>Pv (AA .gtr a I0) λa=>Br a (Pv (CG x0) λa=>Pv (AA .sub a (.int .i64 1)) λa=>Pv (Fq x0 a) λa=>CT ω 178 #[p1,a]<|gh λa=>Pv (unV .not a) λa=>Br a (K x0) (Pv (CG x0) λa=>Pv (AA .sub a (.int .i64 1)) λa=>Pv (EM x0 none (some a)) λa=>Kn0 (a,()))) (K x0)
def AKP (ω:Om)(a0 a1:Value)(K:Value→M):M:=Aw ((a0,()):Value×Unit) λs Kn0=>AAB ω a1 Q0 s.1 Kn0 K
def AOE:=zkc2 AKP 146 Tryz.func146
def ZZ (ω:Om)(p0 p2:Value)(p3 p5:Value)(K:Value→M):M:=Pv (CG p0) λa=>Pv (AV Zj Zp [(0,(.int .i64 6)),(1,a)]) λa=>AB 247 4 Zj 1 [(0,a)]<|gh λa=>App 247 4 40 Zj p5 a<|gh λa=>Pv (AV Zh #[(0,1),(1,1)] []) λb=>Sto 2 p3 b<|gh λ_=>Rn (AO 2 p3) λb=>K (Value.tuple #[a,b])
def AAA (ω:Om)(p0 p3:Value)(p4 x2 x5:Value)(Kn0:(Value×Value×Unit)→M)(K:Value→M):M:=Pv (AX p4) λa=>Lf 1 a λa=>Pv (CG p0) λb=>Pv (AA .lss a b) λa=>Br a (CT ω 184 #[p4]<|gh λa=>Pv (exV a 0) λb=>Pv (exV a 1) λa=>New (.cells Zj 247 (0,0))<|gh λc=>Sto 4 c b<|gh λ_=>Pv (AA .neq a I0) λb=>Br b (CO λS=>Lg S 1 c λb=>Pv (AV Zh #[(0,1),(1,1)] [(0,a),(1,b)]) λa=>Sto 2 p3 a<|gh λ_=>Rn (AO 2 p3) λa=>K (Value.tuple #[S0,a])) (Rn (AO 4 c) λa=>AB 247 4 Zj 1 [(0,a)]<|gh λa=>App 247 4 40 Zj x5 a<|gh λa=>CT ω 183 #[p4]<|gh λ_=>Kn0 (x2,a,()))) (ZZ ω p0 x2 p3 x5 K)
def AKO (ω:Om)(a0:Value)(K:Value→M):M:=New (.cells Zh 157 (0,0))<|gh λa=>CT ω 182 #[]<|gh λb=>Pv (AV #[Q0,I0,S0] #[(0,1),(1,1),(2,1)] [(0,a0),(2,b)]) λb=>New (.cells (Value.cells b) 266 (0,0))<|gh λb=>CT ω 183 #[b]<|gh λ_=>Aw ((S0,S0,()):Value×Value×Unit) λs c=>AAA ω a0 a b s.1 s.2.1 c K
def AOD:=zkc1 AKO 150 Tryz.func150
def sh151_1 (ω:Om)(p0 p1 p3:Value)(K:Value→M):M:=SX [p0] λS=>Lg S 0 p3 λa=>Pv (AV Zh #[(0,1),(1,1)] [(0,(.int .i64 174)),(1,a)]) λa=>Sto 1 p0 S0<|gh<|AQ S λ_=>Sto 2 p1 a<|gh λ_=>K (Value.tuple #[])
def sh151 (ω:Om)(rv a0 a1:Value)(K:Value→M):M:=Pv (some rv) λ_=>Pv (Nk true .neq rv Value.nilIface) λa=>Br a (Pv (WY 241 (Value.agg #[I0]) rv) λa=>Pv (exV a 0) λb=>Pv (exV a 1) λa=>New (.cells #[I0] 241 (0,0))<|gh λc=>Sto 1 c b<|gh λ_=>Pv (unV .not a) λa=>Br a (F /- panic -/) (sh151_1 ω a0 a1 c K)) (K (Value.tuple #[]))
theorem Ux (ω:Om)(rv:Value)(a0 a1:Value)(K:Value→M):vcR Tryz.prog ω rv Tryz.f151 [a0,a1] K=sh151 ω rv a0 a1 K:=by kernel_rfl
theorem AIZ {ω:Om}{a0 a1:Value}{K:Value→M}{I:Imm}{L:LH}(h:sh151 ω .nilIface a0 a1 (λv=>Gh (K v)) I L):CalD Tryz.prog ω 151 #[a0,a1] K I L:=
 CalD.gh (WC mixed Tryz.func151 (by rw [Ux];exact h))
theorem AIX {ω:Om}{rv:Value}{a0 a1:Value}{K:Value→M}{I:Imm}{L:LH}(h:sh151 ω rv a0 a1 (λv=>Gh (K v)) I L):CalDR Tryz.prog ω 151 #[a0,a1] rv K I L:=
 CalDR.gh (UV mixed Tryz.func151 (by rw [Ux];exact h))
def AKN (ω:Om)(a0 a1:Value)(K:Value→M):M:=CT ω 154 #[a0,a1]<|gh λa=>Br a (CT ω 185 #[a0]<|gh λ_=>K a) (K a)
def AOC:=zkc2 AKN 152 Tryz.func152
def sh153_1 (ω:Om)(p0 p2 p3:Value)(K:Value→M)(Pn:Value→M):M:=AB 9 1 Za 1 [(0,(zS [118,97,108,117,101,115]))]<|gh λa=>AL Tryz.prog ω 187 #[p0,a] Pn<|gh λ_=>AL Tryz.prog ω 190 #[p0,(Value.func (Fn.func 191) #[p0] #[])] Pn<|gh λa=>Pv (Ah 32 p3) λb=>Sto 1 b a<|gh λ_=>Rn (AO 51 p3) λa=>Sto 51 p2 a<|gh λ_=>Rn (AO 51 p2) λa=>K a
def sh153 (ω:Om)(a0:Value)(K:Value→M)(Pn:Value→M):M:=New (.cells Ze 76 (0,0))<|gh λa=>AL Tryz.prog ω 152 #[a0,(zS [115,101,108,101,99,116])] Pn<|gh λb=>Br b (AL Tryz.prog ω 186 #[a0] Pn<|gh λb=>Pv (AV Ze Zm [(0,(.int .i64 1)),(1,b)]) λb=>Sto 51 a b<|gh λ_=>Rn (AO 51 a) λa=>K a) (AL Tryz.prog ω 152 #[a0,(zS [105,110,115,101,114,116])] Pn<|gh λb=>Br b (AB 9 1 Za 1 [(0,(zS [105,110,116,111]))]<|gh λb=>AL Tryz.prog ω 187 #[a0,b] Pn<|gh λ_=>AL Tryz.prog ω 188 #[a0] Pn<|gh λb=>Pv (AV Ze Zm [(0,(.int .i64 2)),(2,b)]) λb=>New (.cells Ze 76 (0,0))<|gh λc=>Sto 51 c b<|gh λ_=>AL Tryz.prog ω 154 #[a0,(zS [40])] Pn<|gh λb=>Br b (AL Tryz.prog ω 189 #[a0] Pn<|gh λb=>Pv (Ah 31 c) λd=>Sto 1 d b<|gh λ_=>sh153_1 ω a0 a c K Pn) (sh153_1 ω a0 a c K Pn)) (AL Tryz.prog ω 152 #[a0,(zS [117,112,100,97,116,101])] Pn<|gh λb=>Br b (AL Tryz.prog ω 188 #[a0] Pn<|gh λb=>Pv (AV Ze Zm [(0,(.int .i64 3)),(2,b)]) λb=>New (.cells Ze 76 (0,0))<|gh λc=>Sto 51 c b<|gh λ_=>AB 9 1 Za 1 [(0,(zS [115,101,116]))]<|gh λb=>AL Tryz.prog ω 187 #[a0,b] Pn<|gh λ_=>AL Tryz.prog ω 192 #[a0,(Value.func (Fn.func 193) #[a0] #[])] Pn<|gh λb=>Pv (Ah 33 c) λd=>Sto 1 d b<|gh λ_=>AL Tryz.prog ω 194 #[a0,(zS [119,104,101,114,101])] Pn<|gh λb=>Pv (Ah 34 c) λd=>Sto 11 d b<|gh λ_=>Rn (AO 51 c) λb=>Sto 51 a b<|gh λ_=>Rn (AO 51 a) λa=>K a) (AL Tryz.prog ω 152 #[a0,(zS [100,101,108,101,116,101])] Pn<|gh λb=>Br b (AB 9 1 Za 1 [(0,(zS [102,114,111,109]))]<|gh λb=>AL Tryz.prog ω 187 #[a0,b] Pn<|gh λ_=>AL Tryz.prog ω 188 #[a0] Pn<|gh λb=>Pv (AV Ze Zm [(0,(.int .i64 4)),(2,b)]) λb=>New (.cells Ze 76 (0,0))<|gh λc=>Sto 51 c b<|gh λ_=>AL Tryz.prog ω 194 #[a0,(zS [119,104,101,114,101])] Pn<|gh λb=>Pv (Ah 34 c) λd=>Sto 11 d b<|gh λ_=>Rn (AO 51 c) λb=>Sto 51 a b<|gh λ_=>Rn (AO 51 a) λa=>K a) (AL Tryz.prog ω 152 #[a0,(zS [99,114,101,97,116,101])] Pn<|gh λb=>Br b (AL Tryz.prog ω 195 #[a0] Pn<|gh λb=>Sto 51 a b<|gh λ_=>Rn (AO 51 a) λa=>K a) (AL Tryz.prog ω 152 #[a0,(zS [100,114,111,112])] Pn<|gh λb=>Br b (AL Tryz.prog ω 152 #[a0,(zS [116,97,98,108,101])] Pn<|gh λb=>Br b (AL Tryz.prog ω 188 #[a0] Pn<|gh λb=>Pv (AV Ze Zm [(0,(.int .i64 7)),(2,b)]) λb=>Sto 51 a b<|gh λ_=>Rn (AO 51 a) λa=>K a) (AB 9 1 Za 1 [(0,(zS [105,110,100,101,120]))]<|gh λb=>AL Tryz.prog ω 187 #[a0,b] Pn<|gh λ_=>AL Tryz.prog ω 188 #[a0] Pn<|gh λb=>Pv (AV Zb1 Zp [(0,b)]) λb=>Pv (AV Ze Zm [(0,(.int .i64 8)),(9,b)]) λb=>Sto 51 a b<|gh λ_=>Rn (AO 51 a) λa=>K a)) (AL Tryz.prog ω 152 #[a0,(zS [98,101,103,105,110])] Pn<|gh λb=>Br b (Pv (AV Ze Zm [(0,(.int .i64 9))]) λb=>Sto 51 a b<|gh λ_=>Rn (AO 51 a) λa=>K a) (AL Tryz.prog ω 152 #[a0,(zS [99,111,109,109,105,116])] Pn<|gh λb=>Br b (Pv (AV Ze Zm [(0,(.int .i64 10))]) λb=>Sto 51 a b<|gh λ_=>Rn (AO 51 a) λa=>K a) (AB 9 1 Za 1 [(0,(zS [114,111,108,108,98,97,99,107]))]<|gh λb=>AL Tryz.prog ω 187 #[a0,b] Pn<|gh λ_=>Pv (AV Ze Zm [(0,(.int .i64 11))]) λb=>Sto 51 a b<|gh λ_=>Rn (AO 51 a) λa=>K a))))))))
def AOB:=zkp1 sh153 153 Tryz.func153
def AKM (ω:Om)(a0 a1:Value)(K:Value→M):M:=Pv (AX a0) λa=>Lf 0 a λa=>Pv (ixV 4 a I0) λa=>Rn (AO 4 a) λa=>New (.cells Zj 247 (0,0))<|gh λb=>Sto 4 b a<|gh λ_=>Lf 0 b λa=>Pv (AA .eql a (.int .i64 2)) λa=>Gd a false (Lf 0 b λa=>Pv (AA .eql a (.int .i64 5)) λa=>Gd a true (Lf 2 b λa=>Pv (BF .eql a a1) λa=>K a) (K Bf)) (Lf 2 b λa=>Pv (BF .eql a a1) λa=>K a)
def AOA:=zkc2 AKM 154 Tryz.func154
def AKL (ω:Om)(a0:Value)(K:Value→M)(Pn:Value→M):M:=Pv (AX a0) λa=>Lf 0 a λa=>Pv (ixV 4 a I0) λa=>Lf 1 a λa=>Pv (AV #[I0] #[(0,1)] [(0,a)]) λa=>Pn (Value.iface 241 a)
def ANz:=zkp1 AKL 155 Tryz.func155
def ZX (ω:Om)(p2 p3:Value)(p4 p5:Value)(K:Value→M):M:=CO λS=>Rs S (BN p4) λa=>Rs S (BN p5) λb=>K (Value.tuple #[a,b])
def ZY (ω:Om)(p2 p3:Value)(p4 p5:Value)(p10 p11 x12:Value)(Kn0:(Value×Unit)→M)(K:Value→M):M:=Pv (AA .lss x12 p11) λa=>Br a (Pv (ixV 51 p10 x12) λa=>Rn (AO 51 a) λa=>New (.cells Ze 76 (0,0))<|gh λb=>Sto 51 b a<|gh λ_=>Rn (AO 51 b) λa=>CT ω 196 #[a,(Value.func (Fn.func 197) #[] #[p4,p5])]<|gh λ_=>Pv (AA .add x12 (.int .i64 1)) λa=>Kn0 (a,())) (ZX ω p2 p3 p4 p5 K)
def AKK (ω:Om)(a0:Value)(K:Value→M):M:=Pv (lenV a0) λa=>New (.cells #[I0] 3 (0,0))<|gh λb=>New (.cells #[I0] 3 (0,0))<|gh λc=>Sto 1 b a<|gh λ_=>Sto 1 c I0<|gh λ_=>Pv (lenV a0) λa=>Aw ((I0,()):Value×Unit) λs d=>ZY ω I0 I0 b c a0 a s.1 d K
def ANy:=zkc1 AKK 156 Tryz.func156
def AKJ (ω:Om)(a0 a1:Value)(K:Value→M):M:=Pv (AX a0) λa=>Pv (MZ 1 256 a a1) λa=>Rn (BN a) λa=>K a
def ANx:=zkc2 AKJ 178 Tryz.func178
def AKI (ω:Om)(K:Value→M):M:=CT ω 212 #[(zS [97,110,100,32,97,115,32,97,115,99,32,98,101,103,105,110,32,98,101,116,119,101,101,110,32,98,121,32,99,97,115,101,32,99,111,109,109,105,116,32,99,114,101,97,116,101,32,99,114,111,115,115,32,100,101,102,97,117,108,116,32,100,101,108,101,116,101,32,100,101,115,99,32,100,105,115,116,105,110,99,116,32,100,114,111,112,32,101,108,115,101,32,101,110,100,32,102,97,108,115,101,32,102,114,111,109,32,103,114,111,117,112,32,104,97,118,105,110,103,32,105,110,32,105,110,100,101,120,32,105,110,110,101,114,32,105,110,115,101,114,116,32,105,110,116,111,32,105,115,32,106,111,105,110,32,107,101,121,32,108,101,102,116,32,108,105,107,101,32,108,105,109,105,116,32,110,111,116,32,110,117,108,108,32,111,102,102,115,101,116,32,111,110,32,111,114,32,111,114,100,101,114,32,112,114,105,109,97,114,121,32,114,111,108,108,98,97,99,107,32,115,101,108,101,99,116,32,115,101,116,32,116,97,98,108,101,32,116,104,101,110,32,116,114,117,101,32,117,110,105,113,117,101,32,117,112,100,97,116,101,32,118,97,108,117,101,115,32,119,104,101,110,32,119,104,101,114,101])]<|gh λa=>K a
def ANw:=zkc0 AKI 182 Tryz.func182
def ZW (ω:Om)(p0:Value)(Kn0:(Unit)→M)(K:Value→M):M:=CO λS=>Pv (AX p0) λa=>Lg S 1 a λa=>Pv (AX p0) λb=>Lg S 0 b λb=>Pv (CG b) λb=>Pv (AA .lss a b) λa=>Br a (CO λS=>Pv (AX p0) λa=>Lg S 0 a λa=>Pv (AX p0) λb=>Lg S 1 b λb=>Pv (Fq a b) λa=>CT ω 120 #[(zS [9,10,12,13,32]),a]<|gh λa=>Pv (AA .geq a I0) λa=>Br a (Pv (AX p0) λa=>Lf 1 a λa=>Pv (AA .add a (.int .i64 1)) λa=>Pv (AX p0) λb=>Pv (Ah 1 b) λb=>Sto 1 b a<|gh λ_=>Kn0 (())) (CO λS=>Pv (AX p0) λa=>Lg S 0 a λa=>Pv (AX p0) λb=>Lg S 1 b λb=>Pv (EM a (some b) none) λa=>CT ω 213 #[a,(zS [45,45])]<|gh λa=>Br a (CO λS=>Pv (AX p0) λa=>Lg S 0 a λa=>Pv (AX p0) λb=>Lg S 1 b λb=>Pv (EM a (some b) none) λa=>CT ω 120 #[a,(.int .u8 10)]<|gh λa=>Pv (AA .lss a I0) λb=>Br b (Pv (AX p0) λa=>Lf 0 a λa=>Pv (CG a) λa=>Pv (AX p0) λb=>Pv (Ah 1 b) λb=>Sto 1 b a<|gh λ_=>K (Value.tuple #[])) (Pv (AX p0) λb=>Lf 1 b λb=>Pv (AA .add b a) λa=>Pv (AX p0) λb=>Pv (Ah 1 b) λb=>Sto 1 b a<|gh λ_=>Kn0 (()))) (K (Value.tuple #[])))) (K (Value.tuple #[]))
def AKH (ω:Om)(a0:Value)(K:Value→M):M:=Aw ((()):Unit) λs Kn0=>ZW ω a0 Kn0 K
def ANv:=zkc1 AKH 183 Tryz.func183
def sh184_3 (ω:Om)(p2 p3 p4:Value)(K:Value→M):M:=Rn (AO 4 p4) λa=>Sto 4 p2 a<|gh λ_=>Rn (AO 4 p2) λa=>K (Value.tuple #[a,I0])
def sh184_1 (ω:Om)(p2 p3 p4:Value)(K:Value→M):M:=Lf 2 p4 λa=>Pv (CG a) λa=>Pv (AA .gtr a (.int .i64 63)) λa=>Br a (Rn (AO 4 p4) λa=>Sto 4 p2 a<|gh λ_=>Rn (AO 4 p2) λa=>K (Value.tuple #[a,(.int .i64 173)])) (sh184_3 ω p2 p3 p4 K)
def ZT (ω:Om)(p2 p3 p4:Value)(K:Value→M):M:=Rn (AO 4 p4) λa=>Sto 4 p2 a<|gh λ_=>Rn (AO 4 p2) λa=>K (Value.tuple #[a,(.int .i64 172)])
def OO (ω:Om)(p2 p3 p4:Value)(K:Value→M):M:=Rn (AO 4 p4) λa=>Sto 4 p2 a<|gh λ_=>Rn (AO 4 p2) λa=>K (Value.tuple #[a,I0])
def ZU (ω:Om)(p0 p2:Value)(p3 p4:Value)(K:Value→M):M:=CO λS=>Pv (AX p0) λa=>Lg S 1 a λa=>Pv (AX p0) λb=>Lg S 0 b λb=>Pv (CG b) λb=>Pv (AA .lss a b) λa=>Gd a true (Pv (AX p0) λa=>Lg S 0 a λa=>Pv (AX p0) λb=>Lg S 1 b λb=>Pv (Fq a b) λa=>CT ω 214 #[a]<|gh λa=>Br a (ZT ω p2 p3 p4 K) (OO ω p2 p3 p4 K)) (OO ω p2 p3 p4 K)
def ZV (ω:Om)(p0 p2:Value)(p4 p56 x3:Value)(Kn0:(Value×Unit)→M)(K:Value→M):M:=ACm p56<|gh λa=>Pv (exV a 0) λb=>Br b (Pv (exV a 2) λa=>Lf 3 p4 λb=>Pv (AA .sub a (.int .i32 48)) λc=>Pv (Hm .i64 c) λc=>Pv (AA .sub (.int .i64 9223372036854775807) c) λc=>Pv (AA .quo c (.int .i64 10)) λc=>Pv (AA .gtr b c) λb=>Br b (Rn (AO 4 p4) λa=>Sto 4 p2 a<|gh λ_=>Rn (AO 4 p2) λa=>K (Value.tuple #[a,(.int .i64 172)])) (Lf 3 p4 λb=>Pv (AA .mul (.int .i64 10) b) λb=>Pv (AA .sub a (.int .i32 48)) λa=>Pv (Hm .i64 a) λa=>Pv (AA .add b a) λa=>Pv (Ah 3 p4) λb=>Sto 1 b a<|gh λ_=>Kn0 (x3,()))) (ZU ω p0 p2 x3 p4 K)
def sh184_11 (ω:Om)(p2 p3:Value)(p4 p9:Value)(K:Value→M):M:=Pv (unV .not p9) λa=>Br a (Rn (AO 4 p4) λa=>Sto 4 p2 a<|gh λ_=>Rn (AO 4 p2) λa=>K (Value.tuple #[a,(.int .i64 173)])) (sh184_3 ω p2 p3 p4 K)
def JE (ω:Om)(p0 p2:Value)(p3 p4:Value)(p5 p100:Value)(K:Value→M):M:=Br p100 (CT ω 221 #[p0,p5]<|gh λa=>Pv (exV a 0) λb=>Pv (exV a 1) λa=>Pv (Ah 0 p4) λc=>Sto 1 c (.int .i64 4)<|gh λ_=>Pv (Ah 2 p4) λc=>Sto 1 c b<|gh λ_=>Pv (AA .eql p5 (.int .u8 34)) λc=>Br c (Pv (Ah 0 p4) λc=>Sto 1 c (.int .i64 1)<|gh λ_=>Gd a true (Pv (BF .neq b Q0) λa=>Gd a true (Pv (CG b) λa=>Pv (AA .leq a (.int .i64 63)) λa=>sh184_11 ω p2 p3 p4 a K) (sh184_11 ω p2 p3 p4 Bf K)) (sh184_11 ω p2 p3 p4 Bf K)) (sh184_11 ω p2 p3 p4 a K)) (Rn (AO 4 p4) λa=>CT ω 222 #[p0,a]<|gh λa=>Pv (exV a 0) λb=>Pv (exV a 1) λa=>Sto 4 p2 b<|gh λ_=>Rn (AO 4 p2) λb=>K (Value.tuple #[b,a]))
def AKG (ω:Om)(a0:Value)(K:Value→M):M:=New (.cells Zj 247 (0,0))<|gh λa=>Pv (AX a0) λb=>Lf 1 b λb=>Pv (AV Zj Zp [(1,b)]) λb=>New (.cells Zj 247 (0,0))<|gh λc=>Sto 4 c b<|gh λ_=>CO λS=>Pv (AX a0) λb=>Lg S 0 b λb=>Pv (AX a0) λd=>Lg S 1 d λd=>Pv (Fq b d) λb=>CT ω 214 #[b]<|gh λd=>Br d (CT ω 217 #[a0,(Value.func (.func 218) #[] #[])]<|gh λb=>CT ω 215 #[(Value.func (.func 216) #[] #[]),b]<|gh λb=>Pv (Ah 0 c) λd=>Sto 1 d (.int .i64 1)<|gh λ_=>Pv (Ah 2 c) λd=>Sto 1 d b<|gh λ_=>CO λS=>Pv (AX a0) λb=>Lg S 2 b λb=>Lg S 2 c λd=>CT ω 220 #[b,d]<|gh λb=>Br b (Pv (Ah 0 c) λb=>Sto 1 b (.int .i64 2)<|gh λ_=>sh184_1 ω a I0 c K) (sh184_1 ω a I0 c K)) (CT ω 219 #[b]<|gh λd=>Br d (Pv (Ah 0 c) λb=>Sto 1 b (.int .i64 3)<|gh λ_=>CT ω 217 #[a0,(Value.func (.func 219) #[] #[])]<|gh λb=>AGw b<|gh λb=>Aw ((I0,()):Value×Unit) λs d=>ZV ω a0 a c b s.1 d K) (Pv (AA .eql b (.int .u8 34)) λd=>Br d (JE ω a0 a I0 c b d K) (Pv (AA .eql b (.int .u8 39)) λd=>JE ω a0 a I0 c b d K)))
def ANu:=zkc1 AKG 184 Tryz.func184
def AKF (ω:Om)(a0:Value)(K:Value→M):M:=New (.cells Zj 247 (0,0))<|gh λa=>Pv (AX a0) λb=>Lf 0 b λb=>Pv (ixV 4 b I0) λb=>Rn (AO 4 b) λb=>New (.cells Zj 247 (0,0))<|gh λc=>Sto 4 c b<|gh λ_=>Pv (AX a0) λb=>Lf 0 b λb=>Pv (Cb 4 b (some (.int .i64 1)) none none) λb=>Pv (AX a0) λd=>Pv (Ah 0 d) λd=>Sto 1 d b<|gh λ_=>Rn (AO 4 c) λb=>Sto 4 a b<|gh λ_=>Rn (AO 4 a) λa=>K a
def ANt:=zkc1 AKF 185 Tryz.func185
def OH (ω:Om)(p2 p3:Value)(K:Value→M)(Pn:Value→M):M:=Rn (AO 29 p3) λa=>Sto 29 p2 a<|gh λ_=>Rn (AO 29 p2) λa=>K a
def OI (ω:Om)(p0 p2 p3:Value)(K:Value→M)(Pn:Value→M):M:=AL Tryz.prog ω 152 #[p0,(zS [111,102,102,115,101,116])] Pn<|gh λa=>Br a (AL Tryz.prog ω 230 #[p0] Pn<|gh λa=>Pv (Ah 28 p3) λb=>Sto 1 b a<|gh λ_=>OH ω p2 p3 K Pn) (OH ω p2 p3 K Pn)
def OJ (ω:Om)(p0 p2 p3:Value)(K:Value→M)(Pn:Value→M):M:=AL Tryz.prog ω 152 #[p0,(zS [108,105,109,105,116])] Pn<|gh λa=>Br a (AL Tryz.prog ω 230 #[p0] Pn<|gh λa=>Pv (Ah 27 p3) λb=>Sto 1 b a<|gh λ_=>OI ω p0 p2 p3 K Pn) (OI ω p0 p2 p3 K Pn)
def OL (ω:Om)(p0 p2 p3:Value)(K:Value→M)(Pn:Value→M):M:=AL Tryz.prog ω 194 #[p0,(zS [104,97,118,105,110,103])] Pn<|gh λa=>Pv (Ah 15 p3) λb=>Sto 11 b a<|gh λ_=>AL Tryz.prog ω 152 #[p0,(zS [111,114,100,101,114])] Pn<|gh λa=>Br a (AB 9 1 Za 1 [(0,(zS [98,121]))]<|gh λa=>AL Tryz.prog ω 187 #[p0,a] Pn<|gh λ_=>AL Tryz.prog ω 228 #[p0,(Value.func (Fn.func 229) #[p0] #[])] Pn<|gh λa=>Pv (Ah 26 p3) λb=>Sto 1 b a<|gh λ_=>OJ ω p0 p2 p3 K Pn) (OJ ω p0 p2 p3 K Pn)
def OM (ω:Om)(p0 p2 p3:Value)(K:Value→M)(Pn:Value→M):M:=AL Tryz.prog ω 194 #[p0,(zS [119,104,101,114,101])] Pn<|gh λa=>Pv (Ah 3 p3) λb=>Sto 11 b a<|gh λ_=>AL Tryz.prog ω 152 #[p0,(zS [103,114,111,117,112])] Pn<|gh λa=>Br a (AB 9 1 Za 1 [(0,(zS [98,121]))]<|gh λa=>AL Tryz.prog ω 187 #[p0,a] Pn<|gh λ_=>AL Tryz.prog ω 226 #[p0,(Value.func (Fn.func 227) #[p0] #[])] Pn<|gh λa=>Pv (Ah 14 p3) λb=>Sto 1 b a<|gh λ_=>OL ω p0 p2 p3 K Pn) (OL ω p0 p2 p3 K Pn)
def AKE (ω:Om)(a0:Value)(K:Value→M)(Pn:Value→M):M:=New (.cells Zc1 68 (0,0))<|gh λa=>AL Tryz.prog ω 152 #[a0,(zS [100,105,115,116,105,110,99,116])] Pn<|gh λb=>Pv (AV Zc1 #[(0,1),(1,1),(2,1),(3,11),(14,1),(15,11),(26,1),(27,1),(28,1)] [(7,(.int .i64 (-1))),(0,b)]) λb=>New (.cells Zc1 68 (0,0))<|gh λc=>Sto 29 c b<|gh λ_=>AL Tryz.prog ω 223 #[a0,(Value.func (Fn.func 224) #[a0] #[])] Pn<|gh λb=>Pv (Ah 1 c) λd=>Sto 1 d b<|gh λ_=>AL Tryz.prog ω 152 #[a0,(zS [102,114,111,109])] Pn<|gh λb=>Br b (AL Tryz.prog ω 225 #[a0] Pn<|gh λb=>Pv (Ah 2 c) λd=>Sto 1 d b<|gh λ_=>OM ω a0 a c K Pn) (OM ω a0 a c K Pn)
def ANs:=zkp1 AKE 186 Tryz.func186
def TY (ω:Om)(p8:Value)(Kn0:(Value×Unit)→M)(K:Value→M)(Pn:Value→M):M:=Pv (AA .add p8 (.int .i64 1)) λa=>Kn0 (a,())
def ZR (ω:Om)(p0 p6:Value)(p7 x8:Value)(Kn0:(Value×Unit)→M)(K:Value→M)(Pn:Value→M):M:=Pv (AA .lss x8 p7) λa=>Br a (Pv (ixV 1 p6 x8) λa=>Rn (BN a) λa=>AL Tryz.prog ω 152 #[p0,a] Pn<|gh λa=>Pv (unV .not a) λa=>Br a (AL Tryz.prog ω 155 #[p0] Pn<|gh λ_=>TY ω x8 Kn0 K Pn) (TY ω x8 Kn0 K Pn)) (K (Value.tuple #[]))
def AKD (ω:Om)(a0 a1:Value)(K:Value→M)(Pn:Value→M):M:=Pv (lenV a1) λa=>Aw ((I0,()):Value×Unit) λs b=>ZR ω a0 a1 a s.1 b K Pn
def ANr:=zkp2 AKD 187 Tryz.func187
def AKC (ω:Om)(a0:Value)(K:Value→M)(Pn:Value→M):M:=AL Tryz.prog ω 231 #[a0,(.int .i64 1)] Pn<|gh λa=>Pv (Fp false 2 1 a) λa=>K a
def ANq:=zkp1 AKC 188 Tryz.func188
def AKB (ω:Om)(a0:Value)(K:Value→M)(Pn:Value→M):M:=AL Tryz.prog ω 232 #[a0,(Value.func (Fn.func 188) #[a0] #[])] Pn<|gh λa=>K a
def ANp:=zkp1 AKB 189 Tryz.func189
def ZP (ω:Om)(p4 p5:Value)(K:Value→M)(Pn:Value→M):M:=AL Tryz.prog ω 233 #[p5] Pn<|gh λa=>K a
def ZQ (ω:Om)(p0 p1:Value)(p4 x5:Value)(Kn0:(Value×Unit)→M)(K:Value→M)(Pn:Value→M):M:=AL Tryz.prog ω 152 #[p0,(zS [44])] Pn<|gh λa=>Br a (HY Tryz.prog ω p1 #[] Pn<|gh λa=>AB 63 1 #[S0] 1 [(0,a)]<|gh λa=>App 63 1 24 #[S0] x5 a<|gh λa=>Kn0 (a,())) (ZP ω p4 x5 K Pn)
def AKA (ω:Om)(a0 a1:Value)(K:Value→M)(Pn:Value→M):M:=HY Tryz.prog ω a1 #[] Pn<|gh λa=>AB 63 1 #[S0] 1 [(0,a)]<|gh λa=>Aw ((a,()):Value×Unit) λs a=>ZQ ω a0 a1 S0 s.1 a K Pn
def ANo:=zkp2 AKA 190 Tryz.func190
def AJz (ω:Om)(a0:Value)(K:Value→M)(Pn:Value→M):M:=AL Tryz.prog ω 234 #[a0,(Value.func (Fn.func 227) #[a0] #[])] Pn<|gh λa=>K a
def ANn:=zkp1 AJz 191 Tryz.func191
def ZN (ω:Om)(p4 p5:Value)(K:Value→M)(Pn:Value→M):M:=AL Tryz.prog ω 235 #[p5] Pn<|gh λa=>K a
def ZO (ω:Om)(p0 p1:Value)(p4 x5:Value)(Kn0:(Value×Unit)→M)(K:Value→M)(Pn:Value→M):M:=AL Tryz.prog ω 152 #[p0,(zS [44])] Pn<|gh λa=>Br a (HY Tryz.prog ω p1 #[] Pn<|gh λa=>AB 128 12 Zt 1 [(0,a)]<|gh λa=>App 128 12 144 Zt x5 a<|gh λa=>Kn0 (a,())) (ZN ω p4 x5 K Pn)
def AJy (ω:Om)(a0 a1:Value)(K:Value→M)(Pn:Value→M):M:=HY Tryz.prog ω a1 #[] Pn<|gh λa=>AB 128 12 Zt 1 [(0,a)]<|gh λa=>Aw ((a,()):Value×Unit) λs a=>ZO ω a0 a1 S0 s.1 a K Pn
def ANm:=zkp2 AJy 192 Tryz.func192
def AJx (ω:Om)(a0:Value)(K:Value→M)(Pn:Value→M):M:=New (.cells Zt 128 (0,0))<|gh λa=>AL Tryz.prog ω 188 #[a0] Pn<|gh λb=>Pv (AV Zt #[(0,1),(1,11)] [(0,b)]) λb=>New (.cells Zt 128 (0,0))<|gh λc=>Sto 12 c b<|gh λ_=>AB 9 1 Za 1 [(0,(zS [61]))]<|gh λb=>AL Tryz.prog ω 187 #[a0,b] Pn<|gh λ_=>AL Tryz.prog ω 227 #[a0] Pn<|gh λb=>Pv (Ah 1 c) λd=>Sto 11 d b<|gh λ_=>Rn (AO 12 c) λb=>Sto 12 a b<|gh λ_=>Rn (AO 12 a) λa=>K a
def ANl:=zkp1 AJx 193 Tryz.func193
def AJw (ω:Om)(a0 a1:Value)(K:Value→M)(Pn:Value→M):M:=New (.cells Zb 65 (0,0))<|gh λa=>AL Tryz.prog ω 152 #[a0,a1] Pn<|gh λb=>Pv (unV .not b) λb=>Br b (Pv (AV Zb Zn []) λb=>Sto 11 a b<|gh λ_=>Rn (AO 11 a) λa=>K a) (AL Tryz.prog ω 227 #[a0] Pn<|gh λb=>Sto 11 a b<|gh λ_=>Rn (AO 11 a) λa=>K a)
def ANk:=zkp2 AJw 194 Tryz.func194
def AJv (ω:Om)(a0:Value)(K:Value→M)(Pn:Value→M):M:=New (.cells Ze 76 (0,0))<|gh λa=>AL Tryz.prog ω 152 #[a0,(zS [116,97,98,108,101])] Pn<|gh λb=>Br b (AL Tryz.prog ω 236 #[a0] Pn<|gh λb=>Sto 51 a b<|gh λ_=>Rn (AO 51 a) λa=>K a) (AL Tryz.prog ω 152 #[a0,(zS [117,110,105,113,117,101])] Pn<|gh λb=>Pv (AV Zb1 Zp [(3,b)]) λb=>New (.cells Zb1 74 (0,0))<|gh λc=>Sto 4 c b<|gh λ_=>AB 9 1 Za 1 [(0,(zS [105,110,100,101,120]))]<|gh λb=>AL Tryz.prog ω 187 #[a0,b] Pn<|gh λ_=>AL Tryz.prog ω 188 #[a0] Pn<|gh λb=>Pv (Ah 0 c) λd=>Sto 1 d b<|gh λ_=>AB 9 1 Za 1 [(0,(zS [111,110]))]<|gh λb=>AL Tryz.prog ω 187 #[a0,b] Pn<|gh λ_=>AL Tryz.prog ω 188 #[a0] Pn<|gh λb=>Pv (Ah 1 c) λd=>Sto 1 d b<|gh λ_=>AL Tryz.prog ω 189 #[a0] Pn<|gh λb=>Pv (Ah 2 c) λd=>Sto 1 d b<|gh λ_=>Rn (AO 4 c) λb=>Pv (AV Ze Zm [(0,(.int .i64 6)),(9,b)]) λb=>Sto 51 a b<|gh λ_=>Rn (AO 51 a) λa=>K a)
def ANj:=zkp1 AJv 195 Tryz.func195
def LC (ω:Om)(p116:Value)(Kn6:(Value×Unit)→M)(K:Value→M):M:=Pv (AA .add p116 (.int .i64 1)) λa=>Kn6 (a,())
def Uw (ω:Om)(p4 p114:Value)(p115 x116:Value)(Kn6:(Value×Unit)→M)(K:Value→M):M:=Pv (AA .lss x116 p115) λa=>Br a (Pv (ixV 11 p114 x116) λa=>Rn (AO 11 a) λa=>New (.cells Zb 65 (0,0))<|gh λb=>Sto 11 b a<|gh λ_=>Lf 0 b λa=>Pv (AA .neq a I0) λa=>Br a (Rn (BN p4) λa=>Rn (AO 11 b) λb=>CW ω a #[b,(.int .i64 1)]<|gh λ_=>LC ω x116 Kn6 K) (LC ω x116 Kn6 K)) (K (Value.tuple #[]))
def LD (ω:Om)(p4 p5:Value)(K:Value→M):M:=Pv (lenV p5) λa=>Aw ((I0,()):Value×Unit) λs b=>Uw ω p4 p5 a s.1 b K
def PK (ω:Om)(p4 p102:Value)(p103 x5 x104:Value)(Kn5:(Value×Value×Unit)→M)(K:Value→M):M:=Pv (AA .lss x104 p103) λa=>Br a (Pv (ixV 16 p102 x104) λa=>Rn (AO 16 a) λa=>New (.cells Zw 130 (0,0))<|gh λb=>Sto 16 b a<|gh λ_=>Pv (Ah 5 b) λa=>Rn (AO 11 a) λa=>AB 65 11 Zb 1 [(0,a)]<|gh λa=>App 65 11 128 Zb x5 a<|gh λa=>Pv (AA .add x104 (.int .i64 1)) λb=>Kn5 (a,b,())) (LD ω p4 x5 K)
def PL (ω:Om)(p2 p4 p5:Value)(K:Value→M):M:=Lf 45 p2 λa=>Pv (lenV a) λb=>Aw ((p5,I0,()):Value×Value×Unit) λs c=>PK ω p4 a b s.1 s.2.1 c K
def PM (ω:Om)(p2 p4:Value)(p89 p90:Value)(x5 x91:Value)(Kn4:(Value×Value×Unit)→M)(K:Value→M):M:=Pv (AA .lss x91 p90) λa=>Br a (Pv (ixV 12 p89 x91) λa=>Rn (AO 12 a) λa=>New (.cells Zt 128 (0,0))<|gh λb=>Sto 12 b a<|gh λ_=>Pv (Ah 1 b) λa=>Rn (AO 11 a) λa=>AB 65 11 Zb 1 [(0,a)]<|gh λa=>App 65 11 128 Zb x5 a<|gh λa=>Pv (AA .add x91 (.int .i64 1)) λb=>Kn4 (a,b,())) (PL ω p2 p4 x5 K)
def PN (ω:Om)(p2 p4 p5:Value)(K:Value→M):M:=Lf 33 p2 λa=>Pv (lenV a) λb=>Aw ((p5,I0,()):Value×Value×Unit) λs c=>PM ω p2 p4 a b s.1 s.2.1 c K
def PO (ω:Om)(p2 p4:Value)(p78 p79:Value)(x5 x80:Value)(Kn3:(Value×Value×Unit)→M)(K:Value→M):M:=Pv (AA .lss x80 p79) λa=>Br a (Pv (ixV 1 p78 x80) λa=>Rn (BN a) λa=>App 65 11 128 Zb x5 a<|gh λa=>Pv (AA .add x80 (.int .i64 1)) λb=>Kn3 (a,b,())) (PN ω p2 p4 x5 K)
def TR (ω:Om)(p2 p4 p5:Value)(K:Value→M):M:=Lf 32 p2 λa=>Pv (lenV a) λb=>Aw ((p5,I0,()):Value×Value×Unit) λs c=>PO ω p2 p4 a b s.1 s.2.1 c K
def TS (ω:Om)(p2 p4:Value)(p65 p66:Value)(x5 x67:Value)(Kn2:(Value×Value×Unit)→M)(K:Value→M):M:=Pv (AA .lss x67 p66) λa=>Br a (Pv (ixV 12 p65 x67) λa=>Rn (AO 12 a) λa=>New (.cells Zu 166 (0,0))<|gh λb=>Sto 12 b a<|gh λ_=>Pv (Ah 0 b) λa=>Rn (AO 11 a) λa=>AB 65 11 Zb 1 [(0,a)]<|gh λa=>App 65 11 128 Zb x5 a<|gh λa=>Pv (AA .add x67 (.int .i64 1)) λb=>Kn2 (a,b,())) (TR ω p2 p4 x5 K)
def TT (ω:Om)(p2 p4 p5:Value)(K:Value→M):M:=Pv (Ah 1 p2) λa=>Lf 26 a λa=>Pv (lenV a) λb=>Aw ((p5,I0,()):Value×Value×Unit) λs c=>TS ω p2 p4 a b s.1 s.2.1 c K
def TU (ω:Om)(p2 p4:Value)(p51 p52:Value)(x5 x53:Value)(Kn1:(Value×Value×Unit)→M)(K:Value→M):M:=Pv (AA .lss x53 p52) λa=>Br a (Pv (ixV 14 p51 x53) λa=>Rn (AO 14 a) λa=>New (.cells Zk 164 (0,0))<|gh λb=>Sto 14 b a<|gh λ_=>Pv (Ah 3 b) λa=>Rn (AO 11 a) λa=>AB 65 11 Zb 1 [(0,a)]<|gh λa=>App 65 11 128 Zb x5 a<|gh λa=>Pv (AA .add x53 (.int .i64 1)) λb=>Kn1 (a,b,())) (TT ω p2 p4 x5 K)
def TV (ω:Om)(p2 p4 p5:Value)(K:Value→M):M:=Pv (Ah 1 p2) λa=>Lf 2 a λa=>Pv (lenV a) λb=>Aw ((p5,I0,()):Value×Value×Unit) λs c=>TU ω p2 p4 a b s.1 s.2.1 c K
def TW (ω:Om)(p2 p4:Value)(p37 p38:Value)(x5 x39:Value)(Kn0:(Value×Value×Unit)→M)(K:Value→M):M:=Pv (AA .lss x39 p38) λa=>Br a (Pv (ixV 14 p37 x39) λa=>Rn (AO 14 a) λa=>New (.cells Zg 162 (0,0))<|gh λb=>Sto 14 b a<|gh λ_=>Pv (Ah 2 b) λa=>Rn (AO 11 a) λa=>AB 65 11 Zb 1 [(0,a)]<|gh λa=>App 65 11 128 Zb x5 a<|gh λa=>Pv (AA .add x39 (.int .i64 1)) λb=>Kn0 (a,b,())) (TV ω p2 p4 x5 K)
def AJu (ω:Om)(a0 a1:Value)(K:Value→M):M:=New (.cells (Value.cells a0) 76 (0,0))<|gh λa=>New (.cells (Value.cells a1) 277 (0,0))<|gh λb=>New (.cells #[Value.nilFunc] 277 (0,0))<|gh λc=>Sto 1 c (Value.func (Fn.func 237) #[] #[b,c])<|gh λ_=>Pv (Ah 34 a) λb=>Rn (AO 11 b) λb=>Pv (Ah 1 a) λd=>Pv (Ah 3 d) λd=>Rn (AO 11 d) λd=>Pv (Ah 1 a) λe=>Pv (Ah 15 e) λe=>Rn (AO 11 e) λe=>AB 65 11 Zb 3 [(0,b),(1,d),(2,e)]<|gh λb=>Pv (Ah 1 a) λd=>Lf 14 d λd=>App 65 11 128 Zb b d<|gh λb=>Pv (Ah 1 a) λd=>Lf 1 d λd=>Pv (lenV d) λe=>Aw ((b,I0,()):Value×Value×Unit) λs b=>TW ω a c d e s.1 s.2.1 b K
def ANi:=zkc2 AJu 196 Tryz.func196
def ADp (ω:Om)(a0 a1:Value)(a2 a3:Value)(K:Value→M):M:=New (.cells (Value.cells a0) 65 (0,0))<|gh λ_=>Rn (BN a2) λa=>Pv (AA .add a (.int .i64 1)) λa=>Sto 1 a2 a<|gh λ_=>Rn (BN a3) λa=>Pv (AFG a a1) λa=>Sto 1 a3 a<|gh λ_=>K (Value.tuple #[])
def ANh:=zkc4 ADp 197 Tryz.func197
def ZI (ω:Om)(p0 p10:Value)(p11 x12:Value)(Kn2:(Value×Value×Value×Unit)→M)(Kn3:(Value×Unit)→M)(K:Value→M):M:=Pv (CG p0) λa=>Pv (AA .lss x12 a) λa=>Gd a true (Pv (Fq p0 x12) λa=>Pv (MZ 1 256 (.pointer (some ⟨6,0,none⟩)) a) λa=>Rn (BN a) λa=>Pv (AA .neq a (.int .u8 0)) λa=>Br a (Pv (AA .add x12 (.int .i64 1)) λa=>Kn3 (a,())) (Kn2 (p10,x12,x12,()))) (Kn2 (p10,x12,x12,()))
def Uu (ω:Om)(p0 p2:Value)(p9 p10 p11:Value)(K:Value→M):M:=Pv (CG p0) λa=>Pv (AA .lss p11 a) λa=>Br a (Pv (EM p0 (some p11) none) λa=>Pv (ixV 1 p9 p10) λb=>Sto 1 b a<|gh λ_=>K p9) (K p9)
def ZJ (ω:Om)(p0 p2:Value)(p9 x10:Value)(x11 x12:Value)(Kn2:(Value×Value×Value×Unit)→M)(K:Value→M):M:=Pv (CG p0) λa=>Pv (AA .lss x12 a) λa=>Br a (Pv (Fq p0 x12) λa=>Pv (MZ 1 256 (.pointer (some ⟨6,0,none⟩)) a) λa=>Rn (BN a) λa=>Pv (AA .eql a (.int .u8 0)) λa=>Br a (Pv (AA .add x12 (.int .i64 1)) λa=>Kn2 (x10,x11,a,())) (Pv (EM p0 (some x11) (some x12)) λa=>Pv (ixV 1 p9 x10) λb=>Sto 1 b a<|gh λ_=>Pv (AA .add x10 (.int .i64 1)) λa=>Pv (AA .add x12 (.int .i64 1)) λb=>Aw ((b,()):Value×Unit) λs b=>ZI ω p0 a x11 s.1 Kn2 b K)) (Uu ω p0 p2 p9 x10 x11 K)
def TQ (ω:Om)(p0 p2:Value)(p9 p10:Value)(p11 p12:Value)(K:Value→M):M:=Aw ((p10,p12,p12,()):Value×Value×Value×Unit) λs Kn2=>ZJ ω p0 p2 p9 s.1 s.2.1 s.2.2.1 Kn2 K
def ZK (ω:Om)(p0 p2:Value)(p9 p10:Value)(p11 x12:Value)(Kn1:(Value×Unit)→M)(K:Value→M):M:=Pv (CG p0) λa=>Pv (AA .lss x12 a) λa=>Gd a true (Pv (Fq p0 x12) λa=>Pv (MZ 1 256 (.pointer (some ⟨6,0,none⟩)) a) λa=>Rn (BN a) λa=>Pv (AA .neq a (.int .u8 0)) λa=>Br a (Pv (AA .add x12 (.int .i64 1)) λa=>Kn1 (a,())) (TQ ω p0 p2 p9 p10 p11 x12 K)) (TQ ω p0 p2 p9 p10 p11 x12 K)
def ZL (ω:Om)(p0 p2:Value)(p3 p5:Value)(K:Value→M):M:=Pv (AA .geq p5 (.int .u8 128)) λa=>Br a (CT ω 245 #[p0,(Value.func (.func 246) #[] #[])]<|gh λa=>K a) (MkS 9 16 Za p3 p3<|gh λa=>Aw ((I0,()):Value×Unit) λs b=>ZK ω p0 p2 a I0 I0 s.1 b K)
def ZM (ω:Om)(p0 p2:Value)(x3 x4:Value)(x5 x6:Value)(Kn0:(Value×Value×Value×Value×Unit)→M)(K:Value→M):M:=Pv (CG p0) λa=>Pv (AA .lss x6 a) λa=>Br a (Pv (Fq p0 x6) λa=>Pv (AA .or x5 a) λb=>Pv (MZ 1 256 (.pointer (some ⟨6,0,none⟩)) a) λa=>Rn (BN a) λa=>Pv (Hm .i64 a) λa=>Pv (unV .xor a) λc=>Pv (AA .and x4 c) λc=>Pv (AA .add x3 c) λc=>Pv (AA .add x6 (.int .i64 1)) λd=>Kn0 (c,a,b,d,())) (ZL ω p0 p2 x3 x5 K)
def AJt (ω:Om)(a0:Value)(K:Value→M):M:=Aw ((I0,(.int .i64 1),(.int .u8 0),I0,()):Value×Value×Value×Value×Unit) λs Kn0=>ZM ω a0 S0 s.1 s.2.1 s.2.2.1 s.2.2.2.1 Kn0 K
def ANg:=zkc1 AJt 212 Tryz.func212
def AJs (ω:Om)(a0 a1:Value)(K:Value→M):M:=CT ω 247 #[a0,a1]<|gh λa=>K a
def ANf:=zkc2 AJs 213 Tryz.func213
def AJr (ω:Om)(a0:Value)(K:Value→M):M:=Pv (AA .eql a0 (.int .u8 95)) λa=>Gd a false (Pv (AA .or a0 (.int .u8 32)) λa=>Pv (AA .geq a (.int .u8 97)) λa=>Gd a true (Pv (AA .or a0 (.int .u8 32)) λa=>Pv (AA .leq a (.int .u8 122)) λa=>K a) (K Bf)) (K Bt)
def ANe:=zkc1 AJr 214 Tryz.func214
def Ut (ω:Om)(p4 p5:Value)(K:Value→M):M:=CT ω 254 #[p5]<|gh λa=>K a
def ZF (ω:Om)(p0 p4:Value)(p5 p68:Value)(Kn1:(Unit)→M)(K:Value→M):M:=ACm p68<|gh λa=>Pv (exV a 0) λb=>Br b (Pv (exV a 2) λa=>CW ω p0 #[a]<|gh λa=>Pv (AA .geq a (.int .i32 0)) λb=>Br b (Pv (AA .lss a (.int .i32 128)) λb=>Br b (Pv (Hm .u8 a) λa=>CT ω 253 #[p5,a]<|gh λ_=>Kn1 (())) (CT ω 251 #[p5,a]<|gh λ_=>Kn1 (()))) (Kn1 (()))) (Ut ω p4 p5 K)
def Kz (ω:Om)(p0 p1:Value)(p4 p5:Value)(K:Value→M):M:=CT ω 252 #[p5]<|gh λa=>Pv (AA .eql a I0) λa=>Br a (K p1) (AGw p1<|gh λa=>Aw ((()):Unit) λs b=>ZF ω p0 p4 p5 a b K)
def TP (ω:Om)(p0 p1:Value)(p4 p5:Value)(p6 p9:Value)(K:Value→M):M:=Pv (AA .add p6 p9) λa=>Pv (EM p1 (some a) none) λa=>Kz ω p0 a p4 p5 K
def OG (ω:Om)(p0 p1:Value)(p4 p5:Value)(p6 p8 p9:Value)(K:Value→M):M:=Pv (CG p1) λa=>Pv (AA .add a (.int .i64 4)) λa=>CT ω 249 #[p5,a]<|gh λ_=>Pv (EM p1 none (some p6)) λa=>CT ω 250 #[p5,a]<|gh λ_=>Pv (AA .geq p8 (.int .i32 0)) λa=>Br a (CT ω 251 #[p5,p8]<|gh λ_=>TP ω p0 p1 p4 p5 p6 p9 K) (TP ω p0 p1 p4 p5 p6 p9 K)
def ZG (ω:Om)(p0 p1:Value)(p4 p5:Value)(p6 p7:Value)(p8 p9:Value)(Kn0:(Value×Unit)→M)(K:Value→M):M:=Pv (EM p1 (some p6) none) λa=>CT ω 179 #[a]<|gh λa=>Pv (exV a 0) λb=>Pv (exV a 1) λa=>Pv (AA .neq a (.int .i64 1)) λc=>Gd c true (Pv (AA .eql p8 b) λb=>Br b (Kn0 (p1,())) (OG ω p0 p1 p4 p5 p6 p8 a K)) (OG ω p0 p1 p4 p5 p6 p8 a K)
def PI (ω:Om)(p0 p1:Value)(p4 p5:Value)(p6 p7:Value)(p8 p9:Value)(K:Value→M):M:=CT ω 248 #[p7]<|gh λa=>OG ω p0 p1 p4 p5 p6 p8 a K
def ZH (ω:Om)(p0 p4:Value)(p5 p14 x1:Value)(Kn0:(Value×Unit)→M)(K:Value→M):M:=ACm p14<|gh λa=>Pv (exV a 0) λb=>Br b (Pv (exV a 1) λb=>Pv (exV a 2) λa=>CW ω p0 #[a]<|gh λc=>Pv (AA .eql c a) λd=>Gd d true (Pv (AA .neq a (.int .i32 65533)) λd=>Br d (Kn0 (x1,())) (Pv (AA .eql a (.int .i32 65533)) λd=>Br d (ZG ω p0 x1 p4 p5 b a c I0 Kn0 K) (PI ω p0 x1 p4 p5 b a c I0 K))) (Pv (AA .eql a (.int .i32 65533)) λd=>Br d (ZG ω p0 x1 p4 p5 b a c I0 Kn0 K) (PI ω p0 x1 p4 p5 b a c I0 K))) (Kz ω p0 x1 p4 p5 K)
def AJq (ω:Om)(a0 a1:Value)(K:Value→M):M:=New (.cells Zg1 313 (0,0))<|gh λa=>AGw a1<|gh λb=>Aw ((a1,()):Value×Unit) λs c=>ZH ω a0 Q0 a b s.1 c K
def ANd:=zkc2 AJq 215 Tryz.func215
def ZE (ω:Om)(p0 p2:Value)(K:Value→M):M:=Pv (AA .add p0 (.int .i32 97)) λa=>Pv (AA .sub a (.int .i32 65)) λa=>K a
def AJp (ω:Om)(a0:Value)(K:Value→M):M:=Pv (AA .geq a0 (.int .i32 65)) λa=>Gd a true (Pv (AA .leq a0 (.int .i32 90)) λa=>Br a (ZE ω a0 (.int .i32 0) K) (K a0)) (K a0)
def ANc:=zkc1 AJp 216 Tryz.func216
def OE (ω:Om)(p0 p4 p5:Value)(K:Value→M):M:=CO λS=>Pv (AX p0) λa=>Lg S 0 a λa=>Pv (AX p0) λb=>Lg S 1 b λb=>Pv (EM a (some p5) (some b)) λa=>K a
def ZC (ω:Om)(p0 p1:Value)(p4 p5:Value)(Kn0:(Unit)→M)(K:Value→M):M:=CO λS=>Pv (AX p0) λa=>Lg S 1 a λa=>Pv (AX p0) λb=>Lg S 0 b λb=>Pv (CG b) λb=>Pv (AA .lss a b) λa=>Gd a true (Pv (AX p0) λa=>Lg S 0 a λa=>Pv (AX p0) λb=>Lg S 1 b λb=>Pv (Fq a b) λa=>CW ω p1 #[a]<|gh λa=>Br a (Pv (AX p0) λa=>Lf 1 a λa=>Pv (AA .add a (.int .i64 1)) λa=>Pv (AX p0) λb=>Pv (Ah 1 b) λb=>Sto 1 b a<|gh λ_=>Kn0 (())) (OE ω p0 p4 p5 K)) (OE ω p0 p4 p5 K)
def AJo (ω:Om)(a0 a1:Value)(K:Value→M):M:=Pv (AX a0) λa=>Lf 1 a λa=>Aw ((()):Unit) λs b=>ZC ω a0 a1 Q0 a b K
def ANb:=zkc2 AJo 217 Tryz.func217
def ADo (ω:Om)(a0:Value)(K:Value→M):M:=CT ω 214 #[a0]<|gh λa=>Gd a false (CT ω 219 #[a0]<|gh λa=>K a) (K Bt)
def ANa:=zkc1 ADo 218 Tryz.func218
def AJn (ω:Om)(a0:Value)(K:Value→M):M:=Pv (AA .geq a0 (.int .u8 48)) λa=>Gd a true (Pv (AA .leq a0 (.int .u8 57)) λa=>K a) (K Bf)
def ANZ:=zkc1 AJn 219 Tryz.func219
def AJm (ω:Om)(a0 a1:Value)(K:Value→M):M:=CT ω 255 #[a0,a1]<|gh λa=>Pv (AA .geq a I0) λa=>K a
def ANX:=zkc2 AJm 220 Tryz.func220
def OD (ω:Om)(p4 p5 p7:Value)(Kn0:(Value×Value×Value×Unit)→M)(K:Value→M):M:=Pv (AA .add p7 (.int .i64 1)) λa=>Kn0 (p4,p5,a,())
def ZA (ω:Om)(p1 p4:Value)(p5 p6 p7:Value)(Kn0:(Value×Value×Value×Unit)→M)(K:Value→M):M:=CT ω 253 #[p6,p1]<|gh λ_=>Pv (AA .add p7 (.int .i64 1)) λa=>OD ω p4 p5 a Kn0 K
def OC (ω:Om)(p0 p4:Value)(p5 p6 p7:Value)(K:Value→M):M:=Pv (AA .add p7 (.int .i64 1)) λa=>Pv (AX p0) λb=>Pv (Ah 1 b) λb=>Sto 1 b a<|gh λ_=>CT ω 254 #[p6]<|gh λa=>K (Value.tuple #[a,Bt])
def ZB (ω:Om)(p0 p1:Value)(p6 x4:Value)(x5 x7:Value)(Kn0:(Value×Value×Value×Unit)→M)(K:Value→M):M:=Pv (AX p0) λa=>Lf 0 a λa=>Pv (CG a) λa=>Pv (AA .lss x7 a) λa=>Br a (Pv (AX p0) λa=>Lf 0 a λa=>Pv (Fq a x7) λa=>Pv (AA .eql a (.int .u8 0)) λb=>Br b (K (Value.tuple Zh1)) (Pv (AA .neq a p1) λb=>Br b (CT ω 253 #[p6,a]<|gh λ_=>OD ω x4 x5 x7 Kn0 K) (Pv (AA .add x7 (.int .i64 1)) λa=>Pv (AX p0) λb=>Lf 0 b λb=>Pv (CG b) λb=>Pv (AA .lss a b) λa=>Gd a true (Pv (AX p0) λa=>Lf 0 a λa=>Pv (AA .add x7 (.int .i64 1)) λb=>Pv (Fq a b) λa=>Pv (AA .eql a p1) λa=>Br a (ZA ω p1 x4 x5 p6 x7 Kn0 K) (OC ω p0 x4 x5 p6 x7 K)) (OC ω p0 x4 x5 p6 x7 K)))) (K (Value.tuple Zh1))
def AJl (ω:Om)(a0 a1:Value)(K:Value→M):M:=New (.cells Zg1 313 (0,0))<|gh λa=>Pv (AX a0) λb=>Lf 1 b λb=>Pv (AA .add b (.int .i64 1)) λb=>Aw ((Q0,Bf,b,()):Value×Value×Value×Unit) λs b=>ZB ω a0 a1 a s.1 s.2.1 s.2.2.1 b K
def ANW:=zkc2 AJl 221 Tryz.func221
def OB (ω:Om)(p3 p4 p5:Value)(K:Value→M):M:=Rn (AO 4 p3) λa=>Sto 4 p4 a<|gh λ_=>Rn (AO 4 p4) λa=>K (Value.tuple #[a,I0])
def Yy (ω:Om)(p3 p4 p5:Value)(K:Value→M):M:=Rn (AO 4 p3) λa=>Sto 4 p4 a<|gh λ_=>Rn (AO 4 p4) λa=>K (Value.tuple #[a,(.int .i64 171)])
def Yz (ω:Om)(p0 p3:Value)(p4 p9:Value)(p10 x5 x11:Value)(Kn0:(Value×Value×Unit)→M)(K:Value→M):M:=Pv (AA .lss x11 p10) λa=>Br a (Pv (ixV 1 p9 x11) λa=>Rn (BN a) λa=>CO λS=>Pv (AX p0) λb=>Lg S 0 b λb=>Pv (AX p0) λc=>Lg S 1 c λc=>Pv (EM b (some c) none) λb=>CT ω 213 #[b,a]<|gh λb=>Br b (Pv (AX p0) λb=>Lf 1 b λb=>Pv (CG a) λc=>Pv (AA .add b c) λb=>Pv (AX p0) λc=>Pv (Ah 1 c) λc=>Sto 1 c b<|gh λ_=>Pv (Ah 2 p3) λb=>Sto 1 b a<|gh λ_=>Pv (BF .eql a (zS [33,61])) λa=>Br a (Pv (Ah 2 p3) λa=>Sto 1 a (zS [60,62])<|gh λ_=>OB ω p3 p4 x5 K) (OB ω p3 p4 x5 K)) (Pv (AA .add x11 (.int .i64 1)) λa=>Kn0 (x5,a,()))) (Yy ω p3 p4 x5 K)
def AJk (ω:Om)(a0 a1:Value)(K:Value→M):M:=New (.cells (Value.cells a1) 247 (0,0))<|gh λa=>New (.cells Zj 247 (0,0))<|gh λb=>Pv (Ah 0 a) λc=>Sto 1 c (.int .i64 5)<|gh λ_=>AB 9 1 Za 18 [(0,(zS [60,61])),(1,(zS [62,61])),(2,(zS [60,62])),(3,(zS [33,61])),(4,(zS [124,124])),(5,(zS [40])),(6,(zS [41])),(7,(zS [44])),(8,(zS [46])),(9,(zS [59])),(10,(zS [42])),(11,(zS [43])),(12,(zS [45])),(13,(zS [47])),(14,(zS [37])),(15,(zS [61])),(16,(zS [60])),(17,(zS [62]))]<|gh λc=>Pv (lenV c) λd=>Aw ((I0,I0,()):Value×Value×Unit) λs e=>Yz ω a0 a b c d s.1 s.2.1 e K
def ANV:=zkc2 AJk 222 Tryz.func222
def Yw (ω:Om)(p4 p5:Value)(K:Value→M)(Pn:Value→M):M:=AL Tryz.prog ω 256 #[p5] Pn<|gh λa=>K a
def Yx (ω:Om)(p0 p1:Value)(p4 x5:Value)(Kn0:(Value×Unit)→M)(K:Value→M)(Pn:Value→M):M:=AL Tryz.prog ω 152 #[p0,(zS [44])] Pn<|gh λa=>Br a (HY Tryz.prog ω p1 #[] Pn<|gh λa=>AB 162 14 Zg 1 [(0,a)]<|gh λa=>App 162 14 168 Zg x5 a<|gh λa=>Kn0 (a,())) (Yw ω p4 x5 K Pn)
def AJj (ω:Om)(a0 a1:Value)(K:Value→M)(Pn:Value→M):M:=HY Tryz.prog ω a1 #[] Pn<|gh λa=>AB 162 14 Zg 1 [(0,a)]<|gh λa=>Aw ((a,()):Value×Unit) λs a=>Yx ω a0 a1 S0 s.1 a K Pn
def ANU:=zkp2 AJj 223 Tryz.func223
def sh224_1 (ω:Om)(p0 p2:Value)(K:Value→M)(Pn:Value→M):M:=AL Tryz.prog ω 188 #[p0] Pn<|gh λa=>AB 9 1 Za 2 [(0,(zS [46])),(1,(zS [42]))]<|gh λb=>AL Tryz.prog ω 187 #[p0,b] Pn<|gh λ_=>Pv (AV Zg Zr [(0,Bt),(1,a)]) λa=>Sto 14 p2 a<|gh λ_=>Rn (AO 14 p2) λa=>K a
def sh224_3 (ω:Om)(p2 p4:Value)(K:Value→M)(Pn:Value→M):M:=Rn (AO 14 p4) λa=>Sto 14 p2 a<|gh λ_=>Rn (AO 14 p2) λa=>K a
def sh224_2 (ω:Om)(p0 p2 p4:Value)(K:Value→M)(Pn:Value→M):M:=AL Tryz.prog ω 188 #[p0] Pn<|gh λa=>Pv (Ah 13 p4) λb=>Sto 1 b a<|gh λ_=>sh224_3 ω p2 p4 K Pn
def sh224 (ω:Om)(a0:Value)(K:Value→M)(Pn:Value→M):M:=New (.cells Zg 162 (0,0))<|gh λa=>AL Tryz.prog ω 152 #[a0,(zS [42])] Pn<|gh λb=>Br b (Pv (AV Zg Zr [(0,Bt)]) λb=>Sto 14 a b<|gh λ_=>Rn (AO 14 a) λa=>K a) (Pv (AX a0) λb=>Lf 0 b λb=>Pv (lenV b) λb=>Pv (AA .gtr b (.int .i64 3)) λb=>Gd b true (Pv (AX a0) λb=>Lf 0 b λb=>Pv (ixV 4 b I0) λb=>Lf 0 b λb=>Pv (AA .eql b (.int .i64 1)) λb=>Gd b true (Pv (AX a0) λb=>Lf 0 b λb=>Pv (ixV 4 b (.int .i64 1)) λb=>Lf 0 b λb=>Pv (AA .eql b (.int .i64 5)) λb=>Gd b true (Pv (AX a0) λb=>Lf 0 b λb=>Pv (ixV 4 b (.int .i64 1)) λb=>Lf 2 b λb=>Pv (BF .eql b (zS [46])) λb=>Gd b true (Pv (AX a0) λb=>Lf 0 b λb=>Pv (ixV 4 b (.int .i64 2)) λb=>Lf 0 b λb=>Pv (AA .eql b (.int .i64 5)) λb=>Gd b true (Pv (AX a0) λb=>Lf 0 b λb=>Pv (ixV 4 b (.int .i64 2)) λb=>Lf 2 b λb=>Pv (BF .eql b (zS [42])) λb=>Br b (sh224_1 ω a0 a K Pn) (AL Tryz.prog ω 227 #[a0] Pn<|gh λb=>Pv (AV Zg Zr [(2,b)]) λb=>New (.cells Zg 162 (0,0))<|gh λc=>Sto 14 c b<|gh λ_=>AL Tryz.prog ω 152 #[a0,(zS [97,115])] Pn<|gh λb=>Br b (sh224_2 ω a0 a c K Pn) (sh224_3 ω a c K Pn))) (AL Tryz.prog ω 227 #[a0] Pn<|gh λb=>Pv (AV Zg Zr [(2,b)]) λb=>New (.cells Zg 162 (0,0))<|gh λc=>Sto 14 c b<|gh λ_=>AL Tryz.prog ω 152 #[a0,(zS [97,115])] Pn<|gh λb=>Br b (sh224_2 ω a0 a c K Pn) (sh224_3 ω a c K Pn))) (AL Tryz.prog ω 227 #[a0] Pn<|gh λb=>Pv (AV Zg Zr [(2,b)]) λb=>New (.cells Zg 162 (0,0))<|gh λc=>Sto 14 c b<|gh λ_=>AL Tryz.prog ω 152 #[a0,(zS [97,115])] Pn<|gh λb=>Br b (sh224_2 ω a0 a c K Pn) (sh224_3 ω a c K Pn))) (AL Tryz.prog ω 227 #[a0] Pn<|gh λb=>Pv (AV Zg Zr [(2,b)]) λb=>New (.cells Zg 162 (0,0))<|gh λc=>Sto 14 c b<|gh λ_=>AL Tryz.prog ω 152 #[a0,(zS [97,115])] Pn<|gh λb=>Br b (sh224_2 ω a0 a c K Pn) (sh224_3 ω a c K Pn))) (AL Tryz.prog ω 227 #[a0] Pn<|gh λb=>Pv (AV Zg Zr [(2,b)]) λb=>New (.cells Zg 162 (0,0))<|gh λc=>Sto 14 c b<|gh λ_=>AL Tryz.prog ω 152 #[a0,(zS [97,115])] Pn<|gh λb=>Br b (sh224_2 ω a0 a c K Pn) (sh224_3 ω a c K Pn))) (AL Tryz.prog ω 227 #[a0] Pn<|gh λb=>Pv (AV Zg Zr [(2,b)]) λb=>New (.cells Zg 162 (0,0))<|gh λc=>Sto 14 c b<|gh λ_=>AL Tryz.prog ω 152 #[a0,(zS [97,115])] Pn<|gh λb=>Br b (sh224_2 ω a0 a c K Pn) (sh224_3 ω a c K Pn)))
def ANT:=zkp1 sh224 224 Tryz.func224
def Ky (ω:Om)(p0 p2:Value)(p3 p4:Value)(Kn0:(Value×Value×Unit)→M)(K:Value→M)(Pn:Value→M):M:=AB 9 1 Za 1 [(0,(zS [106,111,105,110]))]<|gh λa=>AL Tryz.prog ω 187 #[p0,a] Pn<|gh λ_=>AL Tryz.prog ω 257 #[p0] Pn<|gh λa=>New (.cells Zk 164 (0,0))<|gh λb=>Sto 14 b a<|gh λ_=>Pv (Ah 2 b) λa=>Sto 1 a p4<|gh λ_=>AB 9 1 Za 1 [(0,(zS [111,110]))]<|gh λa=>AL Tryz.prog ω 187 #[p0,a] Pn<|gh λ_=>AL Tryz.prog ω 227 #[p0] Pn<|gh λa=>Pv (Ah 3 b) λc=>Sto 11 c a<|gh λ_=>Rn (AO 14 b) λa=>AB 164 14 Zk 1 [(0,a)]<|gh λa=>App 164 14 168 Zk p3 a<|gh λa=>Kn0 (p2,a,())
def sh225_4 (ω:Om)(p0 p2:Value)(p3 p30:Value)(Kn0:(Value×Value×Unit)→M)(K:Value→M)(Pn:Value→M):M:=Br p30 (AL Tryz.prog ω 152 #[p0,(zS [108,101,102,116])] Pn<|gh λa=>Pv (unV .not a) λb=>Br b (AL Tryz.prog ω 152 #[p0,(zS [105,110,110,101,114])] Pn<|gh λ_=>Ky ω p0 p2 p3 a Kn0 K Pn) (Ky ω p0 p2 p3 a Kn0 K Pn)) (AL Tryz.prog ω 258 #[p3] Pn<|gh λa=>K a)
def TN (ω:Om)(p0 x2 x3:Value)(Kn0:(Value×Value×Unit)→M)(K:Value→M)(Pn:Value→M):M:=AL Tryz.prog ω 152 #[p0,(zS [44])] Pn<|gh λa=>Br a (AL Tryz.prog ω 257 #[p0] Pn<|gh λa=>AB 164 14 Zk 1 [(0,a)]<|gh λa=>App 164 14 168 Zk x3 a<|gh λa=>Kn0 (x2,a,())) (AL Tryz.prog ω 152 #[p0,(zS [99,114,111,115,115])] Pn<|gh λa=>Br a (AB 9 1 Za 1 [(0,(zS [106,111,105,110]))]<|gh λa=>AL Tryz.prog ω 187 #[p0,a] Pn<|gh λ_=>AL Tryz.prog ω 257 #[p0] Pn<|gh λa=>AB 164 14 Zk 1 [(0,a)]<|gh λa=>App 164 14 168 Zk x3 a<|gh λa=>Kn0 (x2,a,())) (AL Tryz.prog ω 154 #[p0,(zS [108,101,102,116])] Pn<|gh λa=>Br a (sh225_4 ω p0 x2 x3 a Kn0 K Pn) (AL Tryz.prog ω 154 #[p0,(zS [105,110,110,101,114])] Pn<|gh λa=>Br a (sh225_4 ω p0 x2 x3 a Kn0 K Pn) (AL Tryz.prog ω 154 #[p0,(zS [106,111,105,110])] Pn<|gh λa=>sh225_4 ω p0 x2 x3 a Kn0 K Pn))))
def AJi (ω:Om)(a0:Value)(K:Value→M)(Pn:Value→M):M:=AL Tryz.prog ω 257 #[a0] Pn<|gh λa=>AB 164 14 Zk 1 [(0,a)]<|gh λa=>Aw ((S0,a,()):Value×Value×Unit) λs a=>TN ω a0 s.1 s.2.1 a K Pn
def ANR:=zkp1 AJi 225 Tryz.func225
def Yu (ω:Om)(p4 p5:Value)(K:Value→M)(Pn:Value→M):M:=AL Tryz.prog ω 259 #[p5] Pn<|gh λa=>K a
def Yv (ω:Om)(p0 p1:Value)(p4 x5:Value)(Kn0:(Value×Unit)→M)(K:Value→M)(Pn:Value→M):M:=AL Tryz.prog ω 152 #[p0,(zS [44])] Pn<|gh λa=>Br a (HY Tryz.prog ω p1 #[] Pn<|gh λa=>AB 65 11 Zb 1 [(0,a)]<|gh λa=>App 65 11 128 Zb x5 a<|gh λa=>Kn0 (a,())) (Yu ω p4 x5 K Pn)
def AJh (ω:Om)(a0 a1:Value)(K:Value→M)(Pn:Value→M):M:=HY Tryz.prog ω a1 #[] Pn<|gh λa=>AB 65 11 Zb 1 [(0,a)]<|gh λa=>Aw ((a,()):Value×Unit) λs a=>Yv ω a0 a1 S0 s.1 a K Pn
def ANQ:=zkp2 AJh 226 Tryz.func226
def Yr (ω:Om)(p2 p3:Value)(K:Value→M)(Pn:Value→M):M:=Rn (AO 11 p3) λa=>Sto 11 p2 a<|gh λ_=>Rn (AO 11 p2) λa=>K a
def Yt (ω:Om)(p0 p2 p3:Value)(Kn0:(Unit)→M)(K:Value→M)(Pn:Value→M):M:=AL Tryz.prog ω 152 #[p0,(zS [111,114])] Pn<|gh λa=>Br a (CO λS=>Rs S (AO 11 p3) λa=>AL Tryz.prog ω 260 #[p0] Pn<|gh<|AQ S λb=>AB 65 11 Zb 2 [(0,a),(1,b)]<|gh λa=>AL Tryz.prog ω 261 #[(.int .i64 22),a] Pn<|gh λa=>Sto 11 p3 a<|gh λ_=>Kn0 (())) (Yr ω p2 p3 K Pn)
def AJg (ω:Om)(a0:Value)(K:Value→M)(Pn:Value→M):M:=New (.cells Zb 65 (0,0))<|gh λa=>AL Tryz.prog ω 260 #[a0] Pn<|gh λb=>New (.cells Zb 65 (0,0))<|gh λc=>Sto 11 c b<|gh λ_=>Aw ((()):Unit) λs b=>Yt ω a0 a c b K Pn
def ANP:=zkp1 AJg 227 Tryz.func227
def Yp (ω:Om)(p4 p5:Value)(K:Value→M)(Pn:Value→M):M:=AL Tryz.prog ω 262 #[p5] Pn<|gh λa=>K a
def Yq (ω:Om)(p0 p1:Value)(p4 x5:Value)(Kn0:(Value×Unit)→M)(K:Value→M)(Pn:Value→M):M:=AL Tryz.prog ω 152 #[p0,(zS [44])] Pn<|gh λa=>Br a (HY Tryz.prog ω p1 #[] Pn<|gh λa=>AB 166 12 Zu 1 [(0,a)]<|gh λa=>App 166 12 136 Zu x5 a<|gh λa=>Kn0 (a,())) (Yp ω p4 x5 K Pn)
def AJf (ω:Om)(a0 a1:Value)(K:Value→M)(Pn:Value→M):M:=HY Tryz.prog ω a1 #[] Pn<|gh λa=>AB 166 12 Zu 1 [(0,a)]<|gh λa=>Aw ((a,()):Value×Unit) λs a=>Yq ω a0 a1 S0 s.1 a K Pn
def ANO:=zkp2 AJf 228 Tryz.func228
def sh229_1 (ω:Om)(p2 p3:Value)(K:Value→M)(Pn:Value→M):M:=Rn (AO 12 p3) λa=>Sto 12 p2 a<|gh λ_=>Rn (AO 12 p2) λa=>K a
def sh229 (ω:Om)(a0:Value)(K:Value→M)(Pn:Value→M):M:=New (.cells Zu 166 (0,0))<|gh λa=>AL Tryz.prog ω 227 #[a0] Pn<|gh λb=>Pv (AV Zu #[(0,11),(11,1)] [(0,b)]) λb=>New (.cells Zu 166 (0,0))<|gh λc=>Sto 12 c b<|gh λ_=>AL Tryz.prog ω 152 #[a0,(zS [100,101,115,99])] Pn<|gh λb=>Pv (Ah 11 c) λd=>Sto 1 d b<|gh λ_=>Lf 11 c λb=>Pv (unV .not b) λb=>Br b (AL Tryz.prog ω 152 #[a0,(zS [97,115,99])] Pn<|gh λ_=>sh229_1 ω a c K Pn) (sh229_1 ω a c K Pn)
def ANN:=zkp1 sh229 229 Tryz.func229
def sh230_2 (ω:Om)(p0 p2:Value)(K:Value→M)(Pn:Value→M):M:=AL Tryz.prog ω 231 #[p0,(.int .i64 3)] Pn<|gh λa=>Pv (Fp false 3 1 a) λa=>K a
def sh230_1 (ω:Om)(p0 p2:Value)(K:Value→M)(Pn:Value→M):M:=AL Tryz.prog ω 155 #[p0] Pn<|gh λ_=>sh230_2 ω p0 p2 K Pn
def sh230 (ω:Om)(a0:Value)(K:Value→M)(Pn:Value→M):M:=Pv (AX a0) λa=>Lf 0 a λa=>Pv (ixV 4 a I0) λa=>Lf 0 a λa=>Pv (AA .eql a (.int .i64 3)) λa=>Gd a true (Pv (AX a0) λa=>Lf 0 a λa=>Pv (ixV 4 a I0) λa=>Lf 3 a λa=>Pv (AA .gtr a (.int .i64 2147483647)) λa=>Br a (sh230_1 ω a0 I0 K Pn) (sh230_2 ω a0 I0 K Pn)) (sh230_2 ω a0 I0 K Pn)
def ANM:=zkp1 sh230 230 Tryz.func230
def TM (ω:Om)(p0 p4:Value)(K:Value→M)(Pn:Value→M):M:=AL Tryz.prog ω 185 #[p0] Pn<|gh λa=>Sto 4 p4 a<|gh λ_=>Rn (AO 4 p4) λa=>K a
def AJe (ω:Om)(a0 a1:Value)(K:Value→M)(Pn:Value→M):M:=New (.cells Zj 247 (0,0))<|gh λa=>Pv (AX a0) λb=>Lf 0 b λb=>Pv (ixV 4 b I0) λb=>Lf 0 b λb=>Pv (AA .neq b a1) λb=>Br b (AL Tryz.prog ω 155 #[a0] Pn<|gh λ_=>TM ω a0 a K Pn) (TM ω a0 a K Pn)
def ANL:=zkp2 AJe 231 Tryz.func231
def AJd (ω:Om)(a0 a1:Value)(K:Value→M)(Pn:Value→M):M:=AB 9 1 Za 1 [(0,(zS [40]))]<|gh λa=>AL Tryz.prog ω 187 #[a0,a] Pn<|gh λ_=>AL Tryz.prog ω 263 #[a0,a1] Pn<|gh λa=>AB 9 1 Za 1 [(0,(zS [41]))]<|gh λb=>AL Tryz.prog ω 187 #[a0,b] Pn<|gh λ_=>K a
def ANK:=zkp2 AJd 232 Tryz.func232
def AJc (ω:Om)(a0:Value)(K:Value→M):M:=Pv (lenV a0) λa=>Pv (lenV a0) λb=>Pv (Cb 1 a0 none (some a) (some b)) λa=>K a
def ANJ:=zkc1 AJc 233 Tryz.func233
def AJb (ω:Om)(a0 a1:Value)(K:Value→M)(Pn:Value→M):M:=AB 9 1 Za 1 [(0,(zS [40]))]<|gh λa=>AL Tryz.prog ω 187 #[a0,a] Pn<|gh λ_=>AL Tryz.prog ω 226 #[a0,a1] Pn<|gh λa=>AB 9 1 Za 1 [(0,(zS [41]))]<|gh λb=>AL Tryz.prog ω 187 #[a0,b] Pn<|gh λ_=>K a
def ANI:=zkp2 AJb 234 Tryz.func234
def AJa (ω:Om)(a0:Value)(K:Value→M):M:=Pv (lenV a0) λa=>Pv (lenV a0) λb=>Pv (Cb 12 a0 none (some a) (some b)) λa=>K a
def ANH:=zkc1 AJa 235 Tryz.func235
def sh236_6 (ω:Om)(p0 p2 p3:Value)(K:Value→M)(Pn:Value→M):M:=AB 9 1 Za 1 [(0,(zS [41]))]<|gh λa=>AL Tryz.prog ω 187 #[p0,a] Pn<|gh λ_=>Rn (AO 51 p3) λa=>Sto 51 p2 a<|gh λ_=>Rn (AO 51 p2) λa=>K a
def sh236_5 (ω:Om)(p0 p2 p3:Value)(K:Value→M)(Pn:Value→M):M:=Lf 45 p3 λa=>Pv (II .eql a S0) λa=>Br a (AL Tryz.prog ω 155 #[p0] Pn<|gh λ_=>sh236_6 ω p0 p2 p3 K Pn) (sh236_6 ω p0 p2 p3 K Pn)
def Kv (ω:Om)(p0 p2 p3:Value)(Kn0:(Unit)→M)(K:Value→M)(Pn:Value→M):M:=AL Tryz.prog ω 152 #[p0,(zS [44])] Pn<|gh λa=>Pv (unV .not a) λa=>Br a (sh236_5 ω p0 p2 p3 K Pn) (Kn0 (()))
def sh236_2 (ω:Om)(p0 p2 p3:Value)(Kn0:(Unit)→M)(K:Value→M)(Pn:Value→M):M:=AB 9 1 Za 1 [(0,(zS [107,101,121]))]<|gh λa=>AL Tryz.prog ω 187 #[p0,a] Pn<|gh λ_=>AL Tryz.prog ω 189 #[p0] Pn<|gh λa=>Pv (Ah 46 p3) λb=>Sto 1 b a<|gh λ_=>Kv ω p0 p2 p3 Kn0 K Pn
def OA (ω:Om)(p0 p2 p3:Value)(Kn0:(Unit)→M)(K:Value→M)(Pn:Value→M):M:=CO λS=>Lg S 45 p3 λa=>AL Tryz.prog ω 264 #[p0] Pn<|gh<|AQ S λb=>AB 130 16 Zw 1 [(0,b)]<|gh<|AQ S λb=>App 130 16 160 Zw a b<|gh λa=>Pv (Ah 45 p3) λb=>Sto 1 b a<|gh λ_=>Kv ω p0 p2 p3 Kn0 K Pn
def TK (ω:Om)(p0 p2 p3:Value)(Kn0:(Unit)→M)(K:Value→M)(Pn:Value→M):M:=Lf 46 p3 λa=>Pv (II .eql a S0) λa=>Gd a true (AL Tryz.prog ω 152 #[p0,(zS [112,114,105,109,97,114,121])] Pn<|gh λa=>Br a (sh236_2 ω p0 p2 p3 Kn0 K Pn) (OA ω p0 p2 p3 Kn0 K Pn)) (OA ω p0 p2 p3 Kn0 K Pn)
def AJZ (ω:Om)(a0:Value)(K:Value→M)(Pn:Value→M):M:=New (.cells Ze 76 (0,0))<|gh λa=>AL Tryz.prog ω 188 #[a0] Pn<|gh λb=>Pv (AV Ze Zm [(0,(.int .i64 5)),(2,b)]) λb=>New (.cells Ze 76 (0,0))<|gh λc=>Sto 51 c b<|gh λ_=>AB 9 1 Za 1 [(0,(zS [40]))]<|gh λb=>AL Tryz.prog ω 187 #[a0,b] Pn<|gh λ_=>Aw ((()):Unit) λs b=>TK ω a0 a c b K Pn
def ANG:=zkp1 AJZ 236 Tryz.func236
def Yo (ω:Om)(p1 p3:Value)(p13 p14 x15:Value)(Kn0:(Value×Unit)→M)(K:Value→M):M:=Pv (AA .lss x15 p14) λa=>Br a (Pv (ixV 11 p13 x15) λa=>Rn (AO 11 a) λa=>New (.cells Zb 65 (0,0))<|gh λb=>Sto 11 b a<|gh λ_=>Rn (BN p3) λa=>Rn (AO 11 b) λb=>Pv (AA .add p1 (.int .i64 1)) λc=>CW ω a #[b,c]<|gh λ_=>Pv (AA .add x15 (.int .i64 1)) λa=>Kn0 (a,())) (K (Value.tuple #[]))
def ADn (ω:Om)(a0 a1:Value)(a2 a3:Value)(K:Value→M):M:=New (.cells (Value.cells a0) 65 (0,0))<|gh λa=>Rn (BN a2) λb=>Rn (AO 11 a) λc=>CW ω b #[c,a1]<|gh λ_=>Lf 10 a λa=>Pv (lenV a) λb=>Aw ((I0,()):Value×Unit) λs c=>Yo ω a1 a3 a b s.1 c K
def ANF:=zkc4 ADn 237 Tryz.func237
def AJY (ω:Om)(a0 a1:Value)(K:Value→M):M:=Pv (CG a0) λa=>Pv (CG a1) λb=>Pv (AA .geq a b) λa=>Gd a true (Pv (CG a1) λa=>Pv (EM a0 none (some a)) λa=>Pv (BF .eql a a1) λa=>K a) (K Bf)
def ANE:=zkc2 AJY 247 Tryz.func247
def Yn (ω:Om)(p0 p2:Value)(K:Value→M):M:=Pv (AA .leq p0 (.int .i32 65535)) λa=>Br a (K (.int .i64 3)) (Pv (AA .leq p0 (.int .i32 1114111)) λa=>Br a (K (.int .i64 4)) (K (.int .i64 (-1))))
def AJX (ω:Om)(a0:Value)(K:Value→M):M:=Pv (AA .lss a0 (.int .i32 0)) λa=>Br a (K (.int .i64 (-1))) (Pv (AA .leq a0 (.int .i32 127)) λa=>Br a (K (.int .i64 1)) (Pv (AA .leq a0 (.int .i32 2047)) λa=>Br a (K (.int .i64 2)) (Pv (AA .leq (.int .i32 55296) a0) λa=>Gd a true (Pv (AA .leq a0 (.int .i32 57343)) λa=>Br a (K (.int .i64 (-1))) (Yn ω a0 I0 K)) (Yn ω a0 I0 K))))
def ANC:=zkc1 AJX 248 Tryz.func248
def Ym (ω:Om)(p0 p1:Value)(K:Value→M):M:=CO λS=>Pv (AX p0) λa=>Lg S 1 a λa=>Pv (Vz a) λa=>Pv (AX p0) λb=>Lg S 1 b λb=>Pv (lenV b) λb=>Pv (AA .sub a b) λa=>Pv (AA .lss a p1) λa=>Br a (CT ω 270 #[p0,p1]<|gh λ_=>K (Value.tuple #[])) (K (Value.tuple #[]))
def AJW (ω:Om)(a0 a1:Value)(K:Value→M):M:=CT ω 269 #[a0]<|gh λ_=>Pv (AA .lss a1 I0) λa=>Br a (F /- panic -/) (Ym ω a0 a1 K)
def ANB:=zkc2 AJW 249 Tryz.func249
def AJV (ω:Om)(a0 a1:Value)(K:Value→M):M:=CT ω 269 #[a0]<|gh λ_=>Pv (AX a0) λa=>Lf 1 a λa=>App 5 1 1 #[(.int .u8 0)] a a1<|gh λa=>Pv (AX a0) λb=>Pv (Ah 1 b) λb=>Sto 1 b a<|gh λ_=>Pv (CG a1) λa=>K (Value.tuple #[a,Value.nilIface])
def ANA:=zkc2 AJV 250 Tryz.func250
def AJU (ω:Om)(a0 a1:Value)(K:Value→M):M:=CT ω 269 #[a0]<|gh λ_=>Pv (AX a0) λa=>Lf 1 a λa=>Pv (lenV a) λa=>Pv (AX a0) λb=>Lf 1 b λb=>CT ω 271 #[b,a1]<|gh λb=>Pv (AX a0) λc=>Pv (Ah 1 c) λc=>Sto 1 c b<|gh λ_=>Pv (AX a0) λb=>Lf 1 b λb=>Pv (lenV b) λb=>Pv (AA .sub b a) λa=>K (Value.tuple #[a,Value.nilIface])
def AMz:=zkc2 AJU 251 Tryz.func251
def AJT (ω:Om)(a0:Value)(K:Value→M):M:=Pv (AX a0) λa=>Lf 1 a λa=>Pv (Vz a) λa=>K a
def AMy:=zkc1 AJT 252 Tryz.func252
def AJS (ω:Om)(a0 a1:Value)(K:Value→M):M:=CT ω 269 #[a0]<|gh λ_=>Pv (AX a0) λa=>Lf 1 a λa=>AB 5 1 #[(.int .u8 0)] 1 [(0,a1)]<|gh λb=>App 5 1 1 #[(.int .u8 0)] a b<|gh λa=>Pv (AX a0) λb=>Pv (Ah 1 b) λb=>Sto 1 b a<|gh λ_=>K Value.nilIface
def AMx:=zkc2 AJS 253 Tryz.func253
def AJR (ω:Om)(a0:Value)(K:Value→M):M:=CO λS=>Pv (AX a0) λa=>Lg S 1 a λa=>Pv (ACt a) λa=>Pv (AX a0) λb=>Lg S 1 b λb=>Pv (lenV b) λb=>AOj 5 a b<|gh λa=>K a
def AMw:=zkc1 AJR 254 Tryz.func254
def Yl (ω:Om)(p0 p1:Value)(p7 x4 x8:Value)(Kn0:(Value×Value×Unit)→M)(K:Value→M):M:=Pv (AA .lss x8 p7) λa=>Br a (Pv (ixV 1 p0 x8) λa=>Rn (BN a) λa=>Pv (BF .eql p1 a) λa=>Br a (K x8) (Pv (AA .add x8 (.int .i64 1)) λa=>Kn0 (x4,a,()))) (K (.int .i64 (-1)))
def AJQ (ω:Om)(a0 a1:Value)(K:Value→M):M:=Pv (lenV a0) λa=>Aw ((I0,I0,()):Value×Value×Unit) λs b=>Yl ω a0 a1 a s.1 s.2.1 b K
def AMv:=zkc2 AJQ 255 Tryz.func255
def AJP (ω:Om)(a0:Value)(K:Value→M):M:=Pv (lenV a0) λa=>Pv (lenV a0) λb=>Pv (Cb 14 a0 none (some a) (some b)) λa=>K a
def AMu:=zkc1 AJP 256 Tryz.func256
def sh257_2 (ω:Om)(p2 p3:Value)(K:Value→M)(Pn:Value→M):M:=Rn (AO 14 p3) λa=>Sto 14 p2 a<|gh λ_=>Rn (AO 14 p2) λa=>K a
def sh257_1 (ω:Om)(p0 p2 p3:Value)(K:Value→M)(Pn:Value→M):M:=AL Tryz.prog ω 188 #[p0] Pn<|gh λa=>Pv (Ah 1 p3) λb=>Sto 1 b a<|gh λ_=>sh257_2 ω p2 p3 K Pn
def sh257 (ω:Om)(a0:Value)(K:Value→M)(Pn:Value→M):M:=New (.cells Zk 164 (0,0))<|gh λa=>AL Tryz.prog ω 188 #[a0] Pn<|gh λb=>Pv (AV Zk #[(0,1),(1,1),(2,1),(3,11)] [(0,b)]) λb=>New (.cells Zk 164 (0,0))<|gh λc=>Sto 14 c b<|gh λ_=>AL Tryz.prog ω 152 #[a0,(zS [97,115])] Pn<|gh λb=>Gd b false (Pv (AX a0) λb=>Lf 0 b λb=>Pv (ixV 4 b I0) λb=>Lf 0 b λb=>Pv (AA .eql b (.int .i64 1)) λb=>Br b (sh257_1 ω a0 a c K Pn) (sh257_2 ω a c K Pn)) (sh257_1 ω a0 a c K Pn)
def AMt:=zkp1 sh257 257 Tryz.func257
def AJO (ω:Om)(a0:Value)(K:Value→M):M:=Pv (lenV a0) λa=>Pv (lenV a0) λb=>Pv (Cb 14 a0 none (some a) (some b)) λa=>K a
def AMs:=zkc1 AJO 258 Tryz.func258
def AJN (ω:Om)(a0:Value)(K:Value→M):M:=Pv (lenV a0) λa=>Pv (lenV a0) λb=>Pv (Cb 11 a0 none (some a) (some b)) λa=>K a
def AMr:=zkc1 AJN 259 Tryz.func259
def Yj (ω:Om)(p2 p3:Value)(K:Value→M)(Pn:Value→M):M:=Rn (AO 11 p3) λa=>Sto 11 p2 a<|gh λ_=>Rn (AO 11 p2) λa=>K a
def Yk (ω:Om)(p0 p2 p3:Value)(Kn0:(Unit)→M)(K:Value→M)(Pn:Value→M):M:=AL Tryz.prog ω 152 #[p0,(zS [97,110,100])] Pn<|gh λa=>Br a (CO λS=>Rs S (AO 11 p3) λa=>AL Tryz.prog ω 272 #[p0] Pn<|gh<|AQ S λb=>AB 65 11 Zb 2 [(0,a),(1,b)]<|gh λa=>AL Tryz.prog ω 261 #[(.int .i64 21),a] Pn<|gh λa=>Sto 11 p3 a<|gh λ_=>Kn0 (())) (Yj ω p2 p3 K Pn)
def AJM (ω:Om)(a0:Value)(K:Value→M)(Pn:Value→M):M:=New (.cells Zb 65 (0,0))<|gh λa=>AL Tryz.prog ω 272 #[a0] Pn<|gh λb=>New (.cells Zb 65 (0,0))<|gh λc=>Sto 11 c b<|gh λ_=>Aw ((()):Unit) λs b=>Yk ω a0 a c b K Pn
def AMq:=zkp1 AJM 260 Tryz.func260
def AJL (ω:Om)(a0 a1:Value)(K:Value→M):M:=New (.cells Zb 65 (0,0))<|gh λa=>Pv (AV Zb Zn [(0,a0),(7,a1)]) λb=>Sto 11 a b<|gh λ_=>Rn (AO 11 a) λa=>K a
def AMp:=zkc2 AJL 261 Tryz.func261
def AJK (ω:Om)(a0:Value)(K:Value→M):M:=Pv (lenV a0) λa=>Pv (lenV a0) λb=>Pv (Cb 12 a0 none (some a) (some b)) λa=>K a
def AMo:=zkc1 AJK 262 Tryz.func262
def Yh (ω:Om)(p4 p5:Value)(K:Value→M)(Pn:Value→M):M:=AL Tryz.prog ω 273 #[p5] Pn<|gh λa=>K a
def Yi (ω:Om)(p0 p1:Value)(p4 x5:Value)(Kn0:(Value×Unit)→M)(K:Value→M)(Pn:Value→M):M:=AL Tryz.prog ω 152 #[p0,(zS [44])] Pn<|gh λa=>Br a (HY Tryz.prog ω p1 #[] Pn<|gh λa=>AB 9 1 Za 1 [(0,a)]<|gh λa=>App 9 1 16 Za x5 a<|gh λa=>Kn0 (a,())) (Yh ω p4 x5 K Pn)
def AJJ (ω:Om)(a0 a1:Value)(K:Value→M)(Pn:Value→M):M:=HY Tryz.prog ω a1 #[] Pn<|gh λa=>AB 9 1 Za 1 [(0,a)]<|gh λa=>Aw ((a,()):Value×Unit) λs a=>Yi ω a0 a1 S0 s.1 a K Pn
def AMn:=zkp2 AJJ 263 Tryz.func263
def sh264_4 (ω:Om)(p0 p3:Value)(Kn0:(Unit)→M)(K:Value→M)(Pn:Value→M):M:=AB 9 1 Za 1 [(0,(zS [110,117,108,108]))]<|gh λa=>AL Tryz.prog ω 187 #[p0,a] Pn<|gh λ_=>Pv (Ah 2 p3) λa=>Sto 1 a Bt<|gh λ_=>Kn0 (())
def sh264_8 (ω:Om)(p0 p3:Value)(Kn0:(Unit)→M)(K:Value→M)(Pn:Value→M):M:=AB 9 1 Za 1 [(0,(zS [107,101,121]))]<|gh λa=>AL Tryz.prog ω 187 #[p0,a] Pn<|gh λ_=>Pv (Ah 3 p3) λa=>Sto 1 a Bt<|gh λ_=>Kn0 (())
def sh264_10 (ω:Om)(p3:Value)(Kn0:(Unit)→M)(K:Value→M)(Pn:Value→M):M:=Pv (Ah 4 p3) λa=>Sto 1 a Bt<|gh λ_=>Kn0 (())
def sh264_12 (ω:Om)(p0 p3:Value)(Kn0:(Unit)→M)(K:Value→M)(Pn:Value→M):M:=AL Tryz.prog ω 274 #[p0] Pn<|gh λa=>Pv (Ah 5 p3) λb=>Sto 11 b a<|gh λ_=>Kn0 (())
def sh264_13 (ω:Om)(p2 p3:Value)(K:Value→M)(Pn:Value→M):M:=Rn (AO 16 p3) λa=>Sto 16 p2 a<|gh λ_=>Rn (AO 16 p2) λa=>K a
def sh264_11 (ω:Om)(p0 p2 p3:Value)(Kn0:(Unit)→M)(K:Value→M)(Pn:Value→M):M:=Pv (Ah 5 p3) λa=>Lf 0 a λa=>Pv (AA .eql a I0) λa=>Gd a true (AL Tryz.prog ω 152 #[p0,(zS [100,101,102,97,117,108,116])] Pn<|gh λa=>Br a (sh264_12 ω p0 p3 Kn0 K Pn) (sh264_13 ω p2 p3 K Pn)) (sh264_13 ω p2 p3 K Pn)
def sh264_9 (ω:Om)(p0 p2 p3:Value)(Kn0:(Unit)→M)(K:Value→M)(Pn:Value→M):M:=Lf 4 p3 λa=>Pv (unV .not a) λa=>Gd a true (AL Tryz.prog ω 152 #[p0,(zS [117,110,105,113,117,101])] Pn<|gh λa=>Br a (sh264_10 ω p3 Kn0 K Pn) (sh264_11 ω p0 p2 p3 Kn0 K Pn)) (sh264_11 ω p0 p2 p3 Kn0 K Pn)
def sh264_7 (ω:Om)(p0 p2 p3:Value)(Kn0:(Unit)→M)(K:Value→M)(Pn:Value→M):M:=Lf 3 p3 λa=>Pv (unV .not a) λa=>Gd a true (AL Tryz.prog ω 152 #[p0,(zS [112,114,105,109,97,114,121])] Pn<|gh λa=>Br a (sh264_8 ω p0 p3 Kn0 K Pn) (sh264_9 ω p0 p2 p3 Kn0 K Pn)) (sh264_9 ω p0 p2 p3 Kn0 K Pn)
def sh264_3 (ω:Om)(p0 p2 p3:Value)(Kn0:(Unit)→M)(K:Value→M)(Pn:Value→M):M:=Lf 2 p3 λa=>Pv (unV .not a) λa=>Gd a true (AL Tryz.prog ω 152 #[p0,(zS [110,111,116])] Pn<|gh λa=>Br a (sh264_4 ω p0 p3 Kn0 K Pn) (sh264_7 ω p0 p2 p3 Kn0 K Pn)) (sh264_7 ω p0 p2 p3 Kn0 K Pn)
def sh264_2 (ω:Om)(p0 p2 p3:Value)(K:Value→M)(Pn:Value→M):M:=AL Tryz.prog ω 185 #[p0] Pn<|gh λ_=>Aw ((()):Unit) λs a=>sh264_3 ω p0 p2 p3 a K Pn
def sh264_1 (ω:Om)(p0 p2 p3:Value)(K:Value→M)(Pn:Value→M):M:=Lf 1 p3 λa=>Pv (AA .eql a I0) λa=>Br a (AL Tryz.prog ω 155 #[p0] Pn<|gh λ_=>sh264_2 ω p0 p2 p3 K Pn) (sh264_2 ω p0 p2 p3 K Pn)
def sh264 (ω:Om)(a0:Value)(K:Value→M)(Pn:Value→M):M:=New (.cells Zw 130 (0,0))<|gh λa=>AL Tryz.prog ω 188 #[a0] Pn<|gh λb=>Pv (AV Zw #[(0,1),(1,1),(2,1),(3,1),(4,1),(5,11)] [(0,b)]) λb=>New (.cells Zw 130 (0,0))<|gh λc=>Sto 16 c b<|gh λ_=>Pv (AX a0) λb=>Lf 0 b λb=>Pv (ixV 4 b I0) λb=>Lf 0 b λb=>Pv (AA .eql b (.int .i64 1)) λb=>Br b (Ub<|gh λb=>Gs .string b (zS [105,110,116]) (.int .i64 1)<|gh λ_=>Gs .string b (zS [105,110,116,101,103,101,114]) (.int .i64 1)<|gh λ_=>Gs .string b (zS [98,105,103,105,110,116]) (.int .i64 1)<|gh λ_=>Gs .string b (zS [98,111,111,108]) (.int .i64 2)<|gh λ_=>Gs .string b (zS [98,111,111,108,101,97,110]) (.int .i64 2)<|gh λ_=>Gs .string b (zS [116,101,120,116]) (.int .i64 3)<|gh λ_=>Pv (AX a0) λd=>Lf 0 d λd=>Pv (ixV 4 d I0) λd=>Lf 2 d λd=>Rn (lkR .string I0 false b d) λb=>Pv (Ah 1 c) λd=>Sto 1 d b<|gh λ_=>sh264_1 ω a0 a c K Pn) (sh264_1 ω a0 a c K Pn)
def AMm:=zkp1 sh264 264 Tryz.func264
def AJI (ω:Om)(a0:Value)(K:Value→M):M:=Pv (AX a0) λa=>Lf 0 a λa=>Pv (Gp .eql a N0) λa=>Br a (Rn (ALS a0) λa=>ExtE Tryz.prog ω Extern.AbiNoEscape.same #[a]<|gh λa=>Rn (ALT Tryz.prog 313 a) λa=>Pv (AX a0) λb=>Pv (Ah 0 b) λb=>Sto 1 b a<|gh λ_=>K (Value.tuple #[])) (Pv (AX a0) λa=>Lf 0 a λa=>Pv (Gp .neq a a0) λa=>Br a (F /- ('no','refuse') -/) (K (Value.tuple #[])))
def AMl:=zkc1 AJI 269 Tryz.func269
def AJH (ω:Om)(a0 a1:Value)(K:Value→M):M:=CO λS=>Pv (AX a0) λa=>Lg S 1 a λa=>Pv (Vz a) λa=>Pv (AA .mul (.int .i64 2) a) λa=>Pv (AA .add a a1) λa=>ExtE Tryz.prog ω (Extern.BytealgMakeNoZero.makeNoZero #[3] #[22]) #[a]<|gh<|AQ S λa=>Pv (AX a0) λb=>Lg S 1 b λb=>Pv (lenV b) λb=>Pv (Cb 1 a none (some b) none) λa=>Pv (AX a0) λb=>Lf 1 b λb=>AOl 1 a b<|gh λ_=>Pv (AX a0) λb=>Pv (Ah 1 b) λb=>Sto 1 b a<|gh λ_=>K (Value.tuple #[])
def AMk:=zkc2 AJH 270 Tryz.func270
def AJG (ω:Om)(a0 a1:Value)(K:Value→M):M:=Pv (Hm .u32 a1) λa=>Pv (AA .leq a (.int .u32 127)) λa=>Br a (Pv (Hm .u8 a1) λa=>AB 5 1 #[(.int .u8 0)] 1 [(0,a)]<|gh λa=>App 5 1 1 #[(.int .u8 0)] a0 a<|gh λa=>K a) (CT ω 282 #[a0,a1]<|gh λa=>K a)
def AMj:=zkc2 AJG 271 Tryz.func271
def AJF (ω:Om)(a0:Value)(K:Value→M)(Pn:Value→M):M:=New (.cells Zb 65 (0,0))<|gh λa=>AL Tryz.prog ω 152 #[a0,(zS [110,111,116])] Pn<|gh λb=>Br b (AL Tryz.prog ω 272 #[a0] Pn<|gh λb=>AB 65 11 Zb 1 [(0,b)]<|gh λb=>AL Tryz.prog ω 261 #[(.int .i64 5),b] Pn<|gh λb=>Sto 11 a b<|gh λ_=>Rn (AO 11 a) λa=>K a) (AL Tryz.prog ω 283 #[a0] Pn<|gh λb=>Sto 11 a b<|gh λ_=>Rn (AO 11 a) λa=>K a)
def AMi:=zkp1 AJF 272 Tryz.func272
def AJE (ω:Om)(a0:Value)(K:Value→M):M:=Pv (lenV a0) λa=>Pv (lenV a0) λb=>Pv (Cb 1 a0 none (some a) (some b)) λa=>K a
def AMh:=zkc1 AJE 273 Tryz.func273
def sh274 (ω:Om)(a0:Value)(K:Value→M)(Pn:Value→M):M:=New (.cells Zb 65 (0,0))<|gh λa=>AL Tryz.prog ω 284 #[a0] Pn<|gh λb=>Pv (exV b 0) λc=>Pv (exV b 1) λb=>New (.cells Zb 65 (0,0))<|gh λd=>Sto 11 d c<|gh λ_=>Br b (Rn (AO 11 d) λb=>Sto 11 a b<|gh λ_=>Rn (AO 11 a) λa=>K a) (AL Tryz.prog ω 152 #[a0,(zS [45])] Pn<|gh λb=>Br b (AL Tryz.prog ω 285 #[a0] Pn<|gh λb=>AB 65 11 Zb 1 [(0,b)]<|gh λb=>AL Tryz.prog ω 261 #[(.int .i64 4),b] Pn<|gh λb=>Sto 11 a b<|gh λ_=>Rn (AO 11 a) λa=>K a) (AL Tryz.prog ω 285 #[a0] Pn<|gh λb=>Sto 11 a b<|gh λ_=>Rn (AO 11 a) λa=>K a))
def AMg:=zkp1 sh274 274 Tryz.func274
def sh283_4 (ω:Om)(p0 p2:Value)(p3 p6:Value)(K:Value→M)(Pn:Value→M):M:=AB 9 1 Za 1 [(0,(zS [110,117,108,108]))]<|gh λa=>AL Tryz.prog ω 187 #[p0,a] Pn<|gh λ_=>Rn (AO 11 p3) λa=>AB 65 11 Zb 1 [(0,a)]<|gh λa=>AL Tryz.prog ω 261 #[p6,a] Pn<|gh λa=>Sto 11 p2 a<|gh λ_=>Rn (AO 11 p2) λa=>K a
def sh283_7 (ω:Om)(p2 p3 p7:Value)(K:Value→M)(Pn:Value→M):M:=Br p7 (Rn (AO 11 p3) λa=>AB 65 11 Zb 1 [(0,a)]<|gh λa=>AL Tryz.prog ω 261 #[(.int .i64 5),a] Pn<|gh λa=>Sto 11 p2 a<|gh λ_=>Rn (AO 11 p2) λa=>K a) (Rn (AO 11 p3) λa=>Sto 11 p2 a<|gh λ_=>Rn (AO 11 p2) λa=>K a)
def sh283_3 (ω:Om)(p0 p2 p3:Value)(K:Value→M)(Pn:Value→M):M:=AL Tryz.prog ω 152 #[p0,(zS [105,115])] Pn<|gh λa=>Br a (AL Tryz.prog ω 152 #[p0,(zS [110,111,116])] Pn<|gh λa=>Br a (sh283_4 ω p0 p2 p3 (.int .i64 7) K Pn) (sh283_4 ω p0 p2 p3 (.int .i64 6) K Pn)) (AL Tryz.prog ω 152 #[p0,(zS [110,111,116])] Pn<|gh λa=>AL Tryz.prog ω 152 #[p0,(zS [105,110])] Pn<|gh λb=>Br b (CO λS=>Rs S (AO 11 p3) λb=>(λc d=>(AB 65 11 Zb 1 [(0,b)]<|gh λb=>AL Tryz.prog ω 191 #[p0] Pn<|gh<|AQ S λc=>App 65 11 128 Zb b c<|gh λb=>AL Tryz.prog ω 261 #[(.int .i64 24),b] Pn<|gh λb=>Sto 11 p3 b<|gh λ_=>sh283_7 ω p2 p3 a K Pn) c d∧(AL Tryz.prog ω 191 #[p0] Pn<|gh<|AQ S λc=>AB 65 11 Zb 1 [(0,b)]<|gh λb=>App 65 11 128 Zb b c<|gh λb=>AL Tryz.prog ω 261 #[(.int .i64 24),b] Pn<|gh λb=>Sto 11 p3 b<|gh λ_=>sh283_7 ω p2 p3 a K Pn) c d)) (AL Tryz.prog ω 152 #[p0,(zS [98,101,116,119,101,101,110])] Pn<|gh λb=>Br b (AL Tryz.prog ω 288 #[p0] Pn<|gh λb=>New (.cells Zb 65 (0,0))<|gh λc=>Sto 11 c b<|gh λ_=>AB 9 1 Za 1 [(0,(zS [97,110,100]))]<|gh λb=>AL Tryz.prog ω 187 #[p0,b] Pn<|gh λ_=>CO λS=>Rs S (AO 11 p3) λb=>Rs S (AO 11 c) λc=>AL Tryz.prog ω 288 #[p0] Pn<|gh<|AQ S λd=>AB 65 11 Zb 3 [(0,b),(1,c),(2,d)]<|gh λb=>AL Tryz.prog ω 261 #[(.int .i64 25),b] Pn<|gh λb=>Sto 11 p3 b<|gh λ_=>sh283_7 ω p2 p3 a K Pn) (AL Tryz.prog ω 152 #[p0,(zS [108,105,107,101])] Pn<|gh λb=>Br b (CO λS=>Rs S (AO 11 p3) λb=>AL Tryz.prog ω 288 #[p0] Pn<|gh<|AQ S λc=>AB 65 11 Zb 2 [(0,b),(1,c)]<|gh λb=>AL Tryz.prog ω 261 #[(.int .i64 23),b] Pn<|gh λb=>Sto 11 p3 b<|gh λ_=>sh283_7 ω p2 p3 a K Pn) (Br a (AL Tryz.prog ω 155 #[p0] Pn<|gh λ_=>sh283_7 ω p2 p3 a K Pn) (sh283_7 ω p2 p3 a K Pn)))))
def sh283_1 (ω:Om)(p0 p2:Value)(p3 p11:Value)(p12 x13:Value)(Kn0:(Value×Unit)→M)(K:Value→M)(Pn:Value→M):M:=Pv (AA .lss x13 p12) λa=>Br a (Pv (ixV 1 p11 x13) λa=>Rn (BN a) λa=>AL Tryz.prog ω 152 #[p0,a] Pn<|gh λa=>Br a (CO λS=>Pv (AA .add (.int .i64 15) x13) λa=>Rs S (AO 11 p3) λb=>AL Tryz.prog ω 288 #[p0] Pn<|gh<|AQ S λc=>AB 65 11 Zb 2 [(0,b),(1,c)]<|gh λb=>AL Tryz.prog ω 261 #[a,b] Pn<|gh λa=>Sto 11 p2 a<|gh λ_=>Rn (AO 11 p2) λa=>K a) (Pv (AA .add x13 (.int .i64 1)) λa=>Kn0 (a,()))) (sh283_3 ω p0 p2 p3 K Pn)
def sh283 (ω:Om)(a0:Value)(K:Value→M)(Pn:Value→M):M:=New (.cells Zb 65 (0,0))<|gh λa=>AL Tryz.prog ω 288 #[a0] Pn<|gh λb=>New (.cells Zb 65 (0,0))<|gh λc=>Sto 11 c b<|gh λ_=>AB 9 1 Za 6 [(0,(zS [61])),(1,(zS [60,62])),(2,(zS [60])),(3,(zS [60,61])),(4,(zS [62])),(5,(zS [62,61]))]<|gh λb=>Pv (lenV b) λd=>Aw ((I0,()):Value×Unit) λs e=>sh283_1 ω a0 a c b d s.1 e K Pn
def AMf:=zkp1 sh283 283 Tryz.func283
def sh284_2 (ω:Om)(p0 p2:Value)(p3 p4:Value)(K:Value→M):M:=CT ω 185 #[p0]<|gh λ_=>Rn (AO 4 p4) λa=>Pv (AV Zb Zn [(0,(.int .i64 1)),(1,a)]) λa=>Sto 11 p2 a<|gh λ_=>Rn (AO 11 p2) λa=>K (Value.tuple #[a,Bt])
def sh284 (ω:Om)(a0:Value)(K:Value→M):M:=New (.cells Zb 65 (0,0))<|gh λa=>New (.cells Zs 62 (0,0))<|gh λb=>Pv (AX a0) λc=>Lf 0 c λc=>Pv (ixV 4 c I0) λc=>Lf 0 c λc=>Pv (AA .eql c (.int .i64 4)) λc=>Br c (Pv (AX a0) λc=>Lf 0 c λc=>Pv (ixV 4 c I0) λc=>Lf 2 c λc=>Pv (AV Zs Zp [(0,(.int .i64 3)),(3,c)]) λc=>Sto 4 b c<|gh λ_=>sh284_2 ω a0 a Bf b K) (CT ω 154 #[a0,(zS [116,114,117,101])]<|gh λc=>Br c (Pv (AV Zs Zp [(0,(.int .i64 2)),(2,(.int .i64 1))]) λc=>Sto 4 b c<|gh λ_=>sh284_2 ω a0 a Bf b K) (CT ω 154 #[a0,(zS [102,97,108,115,101])]<|gh λc=>Br c (Pv (AV Zs Zp [(0,(.int .i64 2))]) λc=>Sto 4 b c<|gh λ_=>sh284_2 ω a0 a Bf b K) (CT ω 154 #[a0,(zS [110,117,108,108])]<|gh λc=>Br c (Pv (AV Zs Zp [(0,(.int .i64 4)),(1,Bt)]) λc=>Sto 4 b c<|gh λ_=>sh284_2 ω a0 a Bf b K) (Pv (AV Zb Zn []) λb=>Sto 11 a b<|gh λ_=>Rn (AO 11 a) λa=>K (Value.tuple #[a,Bf])))))
variable {ω:Om}{K:Value→M}{I:Imm}{L:LH}{a0 a1 a2 a3 a4 a5 a6 a7 a8:Value}
def AMe:=zkc1 sh284 284 Tryz.func284
def AJD (ω:Om)(a0:Value)(K:Value→M)(Pn:Value→M):M:=New (.cells Zb 65 (0,0))<|gh λa=>AL Tryz.prog ω 231 #[a0,(.int .i64 3)] Pn<|gh λb=>Pv (Fp false 3 1 b) λb=>Pv (AV Zs Zp [(0,(.int .i64 1)),(2,b)]) λb=>Pv (AV Zb Zn [(0,(.int .i64 1)),(1,b)]) λb=>Sto 11 a b<|gh λ_=>Rn (AO 11 a) λa=>K a
def AMd:=zkp1 AJD 285 Tryz.func285
def AJC (ω:Om)(a0:Value)(K:Value→M)(Pn:Value→M):M:=New (.cells Zb 65 (0,0))<|gh λa=>Ub<|gh λb=>Gs .string b (zS [43]) (.int .i64 9)<|gh λ_=>Gs .string b (zS [45]) (.int .i64 10)<|gh λ_=>Gs .string b (zS [124,124]) (.int .i64 14)<|gh λ_=>AL Tryz.prog ω 291 #[a0,(Value.func (Fn.func 292) #[a0] #[]),b] Pn<|gh λb=>Sto 11 a b<|gh λ_=>Rn (AO 11 a) λa=>K a
def AMc:=zkp1 AJC 288 Tryz.func288
def sh291_3 (ω:Om)(p6 p7:Value)(K:Value→M)(Pn:Value→M):M:=Rn (AO 11 p7) λa=>Sto 11 p6 a<|gh λ_=>Rn (AO 11 p6) λa=>K a
def sh291_1 (ω:Om)(p0 p1:Value)(p2 p6 p7:Value)(Kn0:(Unit)→M)(K:Value→M)(Pn:Value→M):M:=Pv (AX p0) λa=>Lf 0 a λa=>Pv (ixV 4 a I0) λa=>Lf 0 a λa=>Pv (AA .eql a (.int .i64 5)) λa=>Br a (Pv (AX p0) λa=>Lf 0 a λa=>Pv (ixV 4 a I0) λa=>Lf 2 a λa=>Rn (lkR .string I0 true p2 a) λa=>Pv (exV a 0) λb=>Pv (exV a 1) λa=>Pv (unV .not a) λa=>Br a (sh291_3 ω p6 p7 K Pn) (AL Tryz.prog ω 185 #[p0] Pn<|gh λ_=>CO λS=>Rs S (AO 11 p7) λa=>HY Tryz.prog ω p1 #[] Pn<|gh<|AQ S λc=>AB 65 11 Zb 2 [(0,a),(1,c)]<|gh λa=>AL Tryz.prog ω 261 #[b,a] Pn<|gh λa=>Sto 11 p7 a<|gh λ_=>Kn0 (()))) (sh291_3 ω p6 p7 K Pn)
def sh291 (ω:Om)(a0 a1 a2:Value)(K:Value→M)(Pn:Value→M):M:=New (.cells Zb 65 (0,0))<|gh λa=>HY Tryz.prog ω a1 #[] Pn<|gh λb=>New (.cells Zb 65 (0,0))<|gh λc=>Sto 11 c b<|gh λ_=>Aw ((()):Unit) λs b=>sh291_1 ω a0 a1 a2 a c b K Pn
def AMb:=zkp3 sh291 291 Tryz.func291
def AJB (ω:Om)(a0:Value)(K:Value→M)(Pn:Value→M):M:=New (.cells Zb 65 (0,0))<|gh λa=>Ub<|gh λb=>Gs .string b (zS [42]) (.int .i64 11)<|gh λ_=>Gs .string b (zS [47]) (.int .i64 12)<|gh λ_=>Gs .string b (zS [37]) (.int .i64 13)<|gh λ_=>AL Tryz.prog ω 291 #[a0,(Value.func (Fn.func 294) #[a0] #[]),b] Pn<|gh λb=>Sto 11 a b<|gh λ_=>Rn (AO 11 a) λa=>K a
def AMa:=zkp1 AJB 292 Tryz.func292
def sh294_1 (ω:Om)(p0 p2 p6:Value)(K:Value→M)(Pn:Value→M):M:=AL Tryz.prog ω 152 #[p0,(zS [46])] Pn<|gh λa=>Br a (AL Tryz.prog ω 188 #[p0] Pn<|gh λa=>Pv (AV Zb Zn [(0,(.int .i64 2)),(2,p6),(3,a)]) λa=>Sto 11 p2 a<|gh λ_=>Rn (AO 11 p2) λa=>K a) (Pv (AV Zb Zn [(0,(.int .i64 2)),(3,p6)]) λa=>Sto 11 p2 a<|gh λ_=>Rn (AO 11 p2) λa=>K a)
def sh294 (ω:Om)(a0:Value)(K:Value→M)(Pn:Value→M):M:=New (.cells Zb 65 (0,0))<|gh λa=>AL Tryz.prog ω 152 #[a0,(zS [45])] Pn<|gh λb=>Br b (AL Tryz.prog ω 294 #[a0] Pn<|gh λb=>AB 65 11 Zb 1 [(0,b)]<|gh λb=>AL Tryz.prog ω 261 #[(.int .i64 4),b] Pn<|gh λb=>Sto 11 a b<|gh λ_=>Rn (AO 11 a) λa=>K a) (AL Tryz.prog ω 152 #[a0,(zS [40])] Pn<|gh λb=>Br b (AL Tryz.prog ω 227 #[a0] Pn<|gh λb=>New (.cells Zb 65 (0,0))<|gh λc=>Sto 11 c b<|gh λ_=>AB 9 1 Za 1 [(0,(zS [41]))]<|gh λb=>AL Tryz.prog ω 187 #[a0,b] Pn<|gh λ_=>Rn (AO 11 c) λb=>Sto 11 a b<|gh λ_=>Rn (AO 11 a) λa=>K a) (AL Tryz.prog ω 152 #[a0,(zS [99,97,115,101])] Pn<|gh λb=>Br b (AL Tryz.prog ω 297 #[a0] Pn<|gh λb=>Sto 11 a b<|gh λ_=>Rn (AO 11 a) λa=>K a) (Pv (AX a0) λb=>Lf 0 b λb=>Pv (ixV 4 b I0) λb=>Lf 0 b λb=>Pv (AA .eql b (.int .i64 3)) λb=>Br b (AL Tryz.prog ω 285 #[a0] Pn<|gh λb=>Sto 11 a b<|gh λ_=>Rn (AO 11 a) λa=>K a) (AL Tryz.prog ω 284 #[a0] Pn<|gh λb=>Pv (exV b 0) λc=>Pv (exV b 1) λb=>New (.cells Zb 65 (0,0))<|gh λd=>Sto 11 d c<|gh λ_=>Br b (Rn (AO 11 d) λb=>Sto 11 a b<|gh λ_=>Rn (AO 11 a) λa=>K a) (AL Tryz.prog ω 188 #[a0] Pn<|gh λb=>AL Tryz.prog ω 154 #[a0,(zS [40])] Pn<|gh λc=>Br c (AL Tryz.prog ω 298 #[a0,b] Pn<|gh λc=>Pv (exV c 0) λd=>Pv (exV c 1) λc=>New (.cells Zb 65 (0,0))<|gh λe=>Sto 11 e d<|gh λ_=>Br c (Rn (AO 11 e) λb=>Sto 11 a b<|gh λ_=>Rn (AO 11 a) λa=>K a) (sh294_1 ω a0 a b K Pn)) (sh294_1 ω a0 a b K Pn))))))
def AMZ:=zkp1 sh294 294 Tryz.func294
def Nz (ω:Om)(p0 p2 p3:Value)(K:Value→M)(Pn:Value→M):M:=AB 9 1 Za 1 [(0,(zS [101,110,100]))]<|gh λa=>AL Tryz.prog ω 187 #[p0,a] Pn<|gh λ_=>Rn (AO 11 p3) λa=>Sto 11 p2 a<|gh λ_=>Rn (AO 11 p2) λa=>K a
def Yf (ω:Om)(p0 p2 p3:Value)(K:Value→M)(Pn:Value→M):M:=AL Tryz.prog ω 152 #[p0,(zS [101,108,115,101])] Pn<|gh λa=>Br a (CO λS=>Lg S 10 p3 λa=>AL Tryz.prog ω 227 #[p0] Pn<|gh<|AQ S λb=>AB 65 11 Zb 1 [(0,b)]<|gh<|AQ S λb=>App 65 11 128 Zb a b<|gh λa=>Pv (Ah 10 p3) λb=>Sto 1 b a<|gh λ_=>Nz ω p0 p2 p3 K Pn) (Nz ω p0 p2 p3 K Pn)
def Yg (ω:Om)(p0 p2 p3:Value)(Kn0:(Unit)→M)(K:Value→M)(Pn:Value→M):M:=Lf 10 p3 λa=>Pv (II .eql a S0) λa=>Gd a false (AL Tryz.prog ω 154 #[p0,(zS [119,104,101,110])] Pn<|gh λa=>Br a (AB 9 1 Za 1 [(0,(zS [119,104,101,110]))]<|gh λa=>AL Tryz.prog ω 187 #[p0,a] Pn<|gh λ_=>AL Tryz.prog ω 227 #[p0] Pn<|gh λa=>New (.cells Zb 65 (0,0))<|gh λb=>Sto 11 b a<|gh λ_=>AB 9 1 Za 1 [(0,(zS [116,104,101,110]))]<|gh λa=>AL Tryz.prog ω 187 #[p0,a] Pn<|gh λ_=>CO λS=>Lg S 10 p3 λa=>Rs S (AO 11 b) λb=>AL Tryz.prog ω 227 #[p0] Pn<|gh<|AQ S λc=>AB 65 11 Zb 2 [(0,b),(1,c)]<|gh<|AQ S λb=>App 65 11 128 Zb a b<|gh λa=>Pv (Ah 10 p3) λb=>Sto 1 b a<|gh λ_=>Kn0 (())) (Yf ω p0 p2 p3 K Pn)) (AB 9 1 Za 1 [(0,(zS [119,104,101,110]))]<|gh λa=>AL Tryz.prog ω 187 #[p0,a] Pn<|gh λ_=>AL Tryz.prog ω 227 #[p0] Pn<|gh λa=>New (.cells Zb 65 (0,0))<|gh λb=>Sto 11 b a<|gh λ_=>AB 9 1 Za 1 [(0,(zS [116,104,101,110]))]<|gh λa=>AL Tryz.prog ω 187 #[p0,a] Pn<|gh λ_=>CO λS=>Lg S 10 p3 λa=>Rs S (AO 11 b) λb=>AL Tryz.prog ω 227 #[p0] Pn<|gh<|AQ S λc=>AB 65 11 Zb 2 [(0,b),(1,c)]<|gh<|AQ S λb=>App 65 11 128 Zb a b<|gh λa=>Pv (Ah 10 p3) λb=>Sto 1 b a<|gh λ_=>Kn0 (()))
def AJA (ω:Om)(a0:Value)(K:Value→M)(Pn:Value→M):M:=New (.cells Zb 65 (0,0))<|gh λa=>Pv (AV Zb Zn [(0,(.int .i64 26))]) λb=>New (.cells Zb 65 (0,0))<|gh λc=>Sto 11 c b<|gh λ_=>Aw ((()):Unit) λs b=>Yg ω a0 a c b K Pn
def AMY:=zkp1 AJA 297 Tryz.func297
def sh298_3 (ω:Om)(p0 p4:Value)(p5 p7:Value)(K:Value→M)(Pn:Value→M):M:=AB 9 1 Za 1 [(0,(zS [41]))]<|gh λa=>AL Tryz.prog ω 187 #[p0,a] Pn<|gh λ_=>Rn (AO 11 p7) λa=>Sto 11 p4 a<|gh λ_=>Rn (AO 11 p4) λa=>K (Value.tuple #[a,Bt])
def sh298_2 (ω:Om)(p0 p4:Value)(p5 p7:Value)(K:Value→M)(Pn:Value→M):M:=Pv (AV Zb Zn [(0,(.int .i64 3))]) λa=>AB 65 11 Zb 1 [(0,a)]<|gh λa=>Pv (Ah 10 p7) λb=>Sto 1 b a<|gh λ_=>sh298_3 ω p0 p4 p5 p7 K Pn
def sh298_4 (ω:Om)(p0 p4:Value)(p5 p7:Value)(K:Value→M)(Pn:Value→M):M:=AL Tryz.prog ω 152 #[p0,(zS [100,105,115,116,105,110,99,116])] Pn<|gh λa=>Pv (Ah 9 p7) λb=>Sto 1 b a<|gh λ_=>AL Tryz.prog ω 227 #[p0] Pn<|gh λa=>AB 65 11 Zb 1 [(0,a)]<|gh λa=>Pv (Ah 10 p7) λb=>Sto 1 b a<|gh λ_=>sh298_3 ω p0 p4 p5 p7 K Pn
def sh298_1 (ω:Om)(p0 p1:Value)(p4 p5 p27:Value)(K:Value→M)(Pn:Value→M):M:=Br p27 (AB 9 1 Za 1 [(0,(zS [40]))]<|gh λa=>AL Tryz.prog ω 187 #[p0,a] Pn<|gh λ_=>Pv (AV Zb Zn [(0,(.int .i64 28)),(3,p1)]) λa=>New (.cells Zb 65 (0,0))<|gh λb=>Sto 11 b a<|gh λ_=>Pv (BF .eql p1 (zS [99,111,117,110,116])) λa=>Gd a true (AL Tryz.prog ω 152 #[p0,(zS [42])] Pn<|gh λa=>Br a (sh298_2 ω p0 p4 p5 b K Pn) (sh298_4 ω p0 p4 p5 b K Pn)) (sh298_4 ω p0 p4 p5 b K Pn)) (Pv (AV Zb Zn []) λa=>Sto 11 p4 a<|gh λ_=>Rn (AO 11 p4) λa=>K (Value.tuple #[a,Bf]))
def sh298 (ω:Om)(a0 a1:Value)(K:Value→M)(Pn:Value→M):M:=New (.cells Zb 65 (0,0))<|gh λa=>Pv (BF .eql a1 (zS [99,111,97,108,101,115,99,101])) λb=>Br b (AL Tryz.prog ω 191 #[a0] Pn<|gh λb=>AL Tryz.prog ω 261 #[(.int .i64 27),b] Pn<|gh λb=>Sto 11 a b<|gh λ_=>Rn (AO 11 a) λa=>K (Value.tuple #[a,Bt])) (Pv (BF .eql a1 (zS [108,101,110,103,116,104])) λb=>Br b (AB 9 1 Za 1 [(0,(zS [40]))]<|gh λb=>AL Tryz.prog ω 187 #[a0,b] Pn<|gh λ_=>AL Tryz.prog ω 227 #[a0] Pn<|gh λb=>AB 65 11 Zb 1 [(0,b)]<|gh λb=>AL Tryz.prog ω 261 #[(.int .i64 8),b] Pn<|gh λb=>New (.cells Zb 65 (0,0))<|gh λc=>Sto 11 c b<|gh λ_=>AB 9 1 Za 1 [(0,(zS [41]))]<|gh λb=>AL Tryz.prog ω 187 #[a0,b] Pn<|gh λ_=>Rn (AO 11 c) λb=>Sto 11 a b<|gh λ_=>Rn (AO 11 a) λa=>K (Value.tuple #[a,Bt])) (Pv (BF .eql a1 (zS [99,111,117,110,116])) λb=>Br b (sh298_1 ω a0 a1 a Bf b K Pn) (Pv (BF .eql a1 (zS [115,117,109])) λb=>Br b (sh298_1 ω a0 a1 a Bf b K Pn) (Pv (BF .eql a1 (zS [109,105,110])) λb=>Br b (sh298_1 ω a0 a1 a Bf b K Pn) (Pv (BF .eql a1 (zS [109,97,120])) λb=>Br b (sh298_1 ω a0 a1 a Bf b K Pn) (Pv (BF .eql a1 (zS [97,118,103])) λb=>sh298_1 ω a0 a1 a Bf b K Pn))))))
def AMX:=zkp2 sh298 298 Tryz.func298
theorem ALH (x0:Option Addr)(x1:Option Addr)(x2:Nat)(x3:Nat):AV Zd1 Zz [(0,.pointer x0),(1,.slice x1 x2 x3)]=some (.agg #[.pointer x0,.slice x1 x2 x3,(.int .i64 0),(.slice none 0 0),(.slice none 0 0)]):=by kernel_rfl
theorem ALG:AV #[(.slice none 0 0),(.slice none 0 0),(.slice none 0 0),(.slice none 0 0),(Value.string (ByteArray.mk #[]))] Zz []=some (.agg #[(.slice none 0 0),(.slice none 0 0),(.slice none 0 0),(.slice none 0 0),(Value.string (ByteArray.mk #[]))]):=by kernel_rfl
theorem ALF (x0:Int)(x1:Int):AV #[(.int .i64 0),(.int .i64 0),(.int .u8 0),(.slice none 0 0),(.bool false),(.slice none 0 0),(.int .i64 0),(.int .i64 0),(.bool false),(.slice none 0 0),(.slice none 0 0),(.int .i64 0),(.int .i64 0),(.bool false),(.int .i64 0),(Value.string (ByteArray.mk #[])),(Value.string (ByteArray.mk #[])),(Value.string (ByteArray.mk #[])),(.int .i64 0),(.int .i64 0),(.bool false),(.slice none 0 0),(.slice none 0 0),(.int .i64 0),(.int .i64 0),(.bool false),(.int .i64 0),(Value.string (ByteArray.mk #[])),(Value.string (ByteArray.mk #[])),(Value.string (ByteArray.mk #[])),(.int .i64 0),(.int .i64 0),(.bool false),(.slice none 0 0),(.slice none 0 0),(.int .i64 0),(.int .i64 0),(Value.string (ByteArray.mk #[])),(.slice none 0 0),(.slice none 0 0),(.slice none 0 0),(.int .i64 0),(.int .i64 0),(.bool false),(.int .i64 0),(Value.string (ByteArray.mk #[])),(Value.string (ByteArray.mk #[])),(Value.string (ByteArray.mk #[])),(.int .i64 0),(.int .i64 0),(.bool false),(.slice none 0 0),(.slice none 0 0),(.slice none 0 0),(Value.string (ByteArray.mk #[])),(Value.string (ByteArray.mk #[])),(.slice none 0 0),(.bool false),(.bool false),(.bool false),(.slice none 0 0)] #[(0,1),(1,1),(2,1),(3,1),(4,1),(5,1),(6,53),(59,1),(60,1)] [(0,.int .i64 x0),(1,.int .i64 x1)]=some (.agg #[.int .i64 x0,.int .i64 x1,(.int .u8 0),(.slice none 0 0),(.bool false),(.slice none 0 0),(.int .i64 0),(.int .i64 0),(.bool false),(.slice none 0 0),(.slice none 0 0),(.int .i64 0),(.int .i64 0),(.bool false),(.int .i64 0),(Value.string (ByteArray.mk #[])),(Value.string (ByteArray.mk #[])),(Value.string (ByteArray.mk #[])),(.int .i64 0),(.int .i64 0),(.bool false),(.slice none 0 0),(.slice none 0 0),(.int .i64 0),(.int .i64 0),(.bool false),(.int .i64 0),(Value.string (ByteArray.mk #[])),(Value.string (ByteArray.mk #[])),(Value.string (ByteArray.mk #[])),(.int .i64 0),(.int .i64 0),(.bool false),(.slice none 0 0),(.slice none 0 0),(.int .i64 0),(.int .i64 0),(Value.string (ByteArray.mk #[])),(.slice none 0 0),(.slice none 0 0),(.slice none 0 0),(.int .i64 0),(.int .i64 0),(.bool false),(.int .i64 0),(Value.string (ByteArray.mk #[])),(Value.string (ByteArray.mk #[])),(Value.string (ByteArray.mk #[])),(.int .i64 0),(.int .i64 0),(.bool false),(.slice none 0 0),(.slice none 0 0),(.slice none 0 0),(Value.string (ByteArray.mk #[])),(Value.string (ByteArray.mk #[])),(.slice none 0 0),(.bool false),(.bool false),(.bool false),(.slice none 0 0)]):=by kernel_rfl
theorem ALE (x0:ByteArray):AV #[(.slice none 0 0),(.slice none 0 0),(.slice none 0 0),(.slice none 0 0),(Value.string (ByteArray.mk #[]))] Zz [(4,.string x0)]=some (.agg #[(.slice none 0 0),(.slice none 0 0),(.slice none 0 0),(.slice none 0 0),.string x0]):=by kernel_rfl
theorem ALD (x0:Option Addr)(x1:Nat)(x2:Nat)(x3:Option Addr)(x4:Nat)(x5:Nat)(x6:Option Addr)(x7:Nat)(x8:Nat)(x9:Option Addr)(x10:Nat)(x11:Nat)(x12:ByteArray):AV Ze1 #[(0,5),(5,1)] [(0,.agg #[.slice x0 x1 x2,.slice x3 x4 x5,.slice x6 x7 x8,.slice x9 x10 x11,.string x12])]=some (.agg #[.slice x0 x1 x2,.slice x3 x4 x5,.slice x6 x7 x8,.slice x9 x10 x11,.string x12,(.int .i64 0)]):=by kernel_rfl
theorem ALC:AV Zq Zv []=some (.agg Zq):=by kernel_rfl
theorem ALB (x0:Int)(x1:ByteArray)(x2:ByteArray)(x3:Bool):AV Zc Zi [(0,.int .i64 x0),(8,.string x1),(2,.string x2),(9,.bool x3)]=some (.agg #[.int .i64 x0,(Value.string (ByteArray.mk #[])),.string x2,(.int .i64 0),(.int .i64 0),(.int .u8 0),(.slice none 0 0),(.slice none 0 0),.string x1,.bool x3]):=by kernel_rfl
theorem ALA (x0:Int)(x1:Int):AV Zc Zi [(0,.int .i64 x0),(5,.int .u8 x1)]=some (.agg #[.int .i64 x0,(Value.string (ByteArray.mk #[])),(Value.string (ByteArray.mk #[])),(.int .i64 0),(.int .i64 0),.int .u8 x1,(.slice none 0 0),(.slice none 0 0),(Value.string (ByteArray.mk #[])),(.bool false)]):=by kernel_rfl
theorem AKz (x0:Int)(x1:Option Addr)(x2:Nat)(x3:Nat):AV Zc Zi [(0,.int .i64 x0),(6,.slice x1 x2 x3)]=some (.agg #[.int .i64 x0,(Value.string (ByteArray.mk #[])),(Value.string (ByteArray.mk #[])),(.int .i64 0),(.int .i64 0),(.int .u8 0),.slice x1 x2 x3,(.slice none 0 0),(Value.string (ByteArray.mk #[])),(.bool false)]):=by kernel_rfl
theorem AGn (x0:Int):AV Zc Zi [(0,.int .i64 x0)]=some (.agg #[.int .i64 x0,(Value.string (ByteArray.mk #[])),(Value.string (ByteArray.mk #[])),(.int .i64 0),(.int .i64 0),(.int .u8 0),(.slice none 0 0),(.slice none 0 0),(Value.string (ByteArray.mk #[])),(.bool false)]):=by kernel_rfl
theorem AGm (x0:Int)(x1:ByteArray):AV Zc Zi [(0,.int .i64 x0),(2,.string x1)]=some (.agg #[.int .i64 x0,(Value.string (ByteArray.mk #[])),.string x1,(.int .i64 0),(.int .i64 0),(.int .u8 0),(.slice none 0 0),(.slice none 0 0),(Value.string (ByteArray.mk #[])),(.bool false)]):=by kernel_rfl
theorem AGl (x0:Int):AV Zq Zv [(0,.int .i64 x0)]=some (.agg #[.int .i64 x0,(.int .i64 0),(.bool false),(.slice none 0 0),(.slice none 0 0),(.int .i64 0),(.int .i64 0),(.bool false),(.int .i64 0),(Value.string (ByteArray.mk #[])),(Value.string (ByteArray.mk #[])),(Value.string (ByteArray.mk #[])),(.int .i64 0),(.int .i64 0),(.bool false),(.slice none 0 0),(.slice none 0 0),(.int .i64 0),(.int .i64 0),(.bool false),(.int .i64 0),(Value.string (ByteArray.mk #[])),(Value.string (ByteArray.mk #[])),(Value.string (ByteArray.mk #[])),(.int .i64 0),(.int .i64 0),(.bool false),(.slice none 0 0),(.slice none 0 0),(.int .i64 0),(.int .i64 0),(Value.string (ByteArray.mk #[])),(.slice none 0 0),(.slice none 0 0),(.slice none 0 0),(.int .i64 0),(.int .i64 0),(.bool false),(.int .i64 0),(Value.string (ByteArray.mk #[])),(Value.string (ByteArray.mk #[])),(Value.string (ByteArray.mk #[])),(.int .i64 0),(.int .i64 0),(.bool false),(.slice none 0 0),(.slice none 0 0),(.slice none 0 0),(Value.string (ByteArray.mk #[])),(Value.string (ByteArray.mk #[])),(.slice none 0 0),(.bool false),(.bool false)]):=by kernel_rfl
theorem AGk (x0:Int)(x1:ByteArray)(x2:ByteArray):AV Zc Zi [(0,.int .i64 x0),(8,.string x1),(2,.string x2)]=some (.agg #[.int .i64 x0,(Value.string (ByteArray.mk #[])),.string x2,(.int .i64 0),(.int .i64 0),(.int .u8 0),(.slice none 0 0),(.slice none 0 0),.string x1,(.bool false)]):=by kernel_rfl
theorem AGj (x0:Int)(x1:Int)(x2:Bool)(x3:Option Addr)(x4:Nat)(x5:Nat)(x6:Option Addr)(x7:Nat)(x8:Nat)(x9:Int)(x10:Int)(x11:Bool)(x12:Int)(x13:ByteArray)(x14:ByteArray)(x15:ByteArray)(x16:Int)(x17:Int)(x18:Bool)(x19:Option Addr)(x20:Nat)(x21:Nat)(x22:Option Addr)(x23:Nat)(x24:Nat)(x25:Int)(x26:Int)(x27:Bool)(x28:Int)(x29:ByteArray)(x30:ByteArray)(x31:ByteArray)(x32:Int)(x33:Int)(x34:Bool)(x35:Option Addr)(x36:Nat)(x37:Nat)(x38:Option Addr)(x39:Nat)(x40:Nat)(x41:Int)(x42:Int)(x43:ByteArray)(x44:Option Addr)(x45:Nat)(x46:Nat)(x47:Option Addr)(x48:Nat)(x49:Nat)(x50:Option Addr)(x51:Nat)(x52:Nat)(x53:Int)(x54:Int)(x55:Bool)(x56:Int)(x57:ByteArray)(x58:ByteArray)(x59:ByteArray)(x60:Int)(x61:Int)(x62:Bool)(x63:Option Addr)(x64:Nat)(x65:Nat)(x66:Option Addr)(x67:Nat)(x68:Nat)(x69:Option Addr)(x70:Nat)(x71:Nat)(x72:ByteArray)(x73:ByteArray)(x74:Option Addr)(x75:Nat)(x76:Nat)(x77:Bool)(x78:Bool):AV Zq Zv [(0,.int .i64 x0),(1,.agg #[.int .i64 x1,.bool x2,.slice x3 x4 x5,.slice x6 x7 x8,.int .i64 x9,.int .i64 x10,.bool x11,.int .i64 x12,.string x13,.string x14,.string x15,.int .i64 x16,.int .i64 x17,.bool x18,.slice x19 x20 x21,.slice x22 x23 x24,.int .i64 x25,.int .i64 x26,.bool x27,.int .i64 x28,.string x29,.string x30,.string x31,.int .i64 x32,.int .i64 x33,.bool x34,.slice x35 x36 x37,.slice x38 x39 x40,.int .i64 x41,.int .i64 x42,.string x43,.slice x44 x45 x46,.slice x47 x48 x49,.slice x50 x51 x52,.int .i64 x53,.int .i64 x54,.bool x55,.int .i64 x56,.string x57,.string x58,.string x59,.int .i64 x60,.int .i64 x61,.bool x62,.slice x63 x64 x65,.slice x66 x67 x68,.slice x69 x70 x71,.string x72,.string x73,.slice x74 x75 x76,.bool x77]),(2,.bool x78)]=some (.agg #[.int .i64 x0,.int .i64 x1,.bool x2,.slice x3 x4 x5,.slice x6 x7 x8,.int .i64 x9,.int .i64 x10,.bool x11,.int .i64 x12,.string x13,.string x14,.string x15,.int .i64 x16,.int .i64 x17,.bool x18,.slice x19 x20 x21,.slice x22 x23 x24,.int .i64 x25,.int .i64 x26,.bool x27,.int .i64 x28,.string x29,.string x30,.string x31,.int .i64 x32,.int .i64 x33,.bool x34,.slice x35 x36 x37,.slice x38 x39 x40,.int .i64 x41,.int .i64 x42,.string x43,.slice x44 x45 x46,.slice x47 x48 x49,.slice x50 x51 x52,.int .i64 x53,.int .i64 x54,.bool x55,.int .i64 x56,.string x57,.string x58,.string x59,.int .i64 x60,.int .i64 x61,.bool x62,.slice x63 x64 x65,.slice x66 x67 x68,.slice x69 x70 x71,.string x72,.string x73,.slice x74 x75 x76,.bool x77,.bool x78]):=by kernel_rfl
theorem AGi:AV Zf Zl []=some (.agg Zf):=by kernel_rfl
theorem AGh (x0:Bool):AV Zo #[(0,1),(1,1)] [(0,.bool x0)]=some (.agg #[.bool x0,(Value.string (ByteArray.mk #[]))]):=by kernel_rfl
theorem AGg (x0:ByteArray):AV Zo #[(0,1),(1,1)] [(1,.string x0)]=some (.agg #[(.bool false),.string x0]):=by kernel_rfl
theorem AGf (x0:ByteArray)(x1:ByteArray):AV Zd #[(0,1),(1,1)] [(0,.string x0),(1,.string x1)]=some (.agg #[.string x0,.string x1]):=by kernel_rfl
theorem AGe (x0:Option Addr)(x1:Nat)(x2:Nat):AV Zx #[(0,1),(1,1)] [(0,.slice x0 x1 x2)]=some (.agg #[.slice x0 x1 x2,(.bool false)]):=by kernel_rfl
theorem AGd (x0:ByteArray):AV Zd #[(0,1),(1,1)] [(0,.string x0)]=some (.agg #[.string x0,(Value.string (ByteArray.mk #[]))]):=by kernel_rfl
theorem AGc (x0:Int)(x1:Int):AV Zf Zl [(0,.int .i64 x0),(5,.int .u8 x1)]=some (.agg #[.int .i64 x0,(.slice none 0 0),(Value.string (ByteArray.mk #[])),(.int .i64 0),(.int .i64 0),.int .u8 x1]):=by kernel_rfl
theorem AGb (x0:Int)(x1:ByteArray):AV Zf Zl [(0,.int .i64 x0),(2,.string x1)]=some (.agg #[.int .i64 x0,(.slice none 0 0),.string x1,(.int .i64 0),(.int .i64 0),(.int .u8 0)]):=by kernel_rfl
theorem AGa (x0:Int):AV Zf Zl [(0,.int .i64 x0)]=some (.agg #[.int .i64 x0,(.slice none 0 0),(Value.string (ByteArray.mk #[])),(.int .i64 0),(.int .i64 0),(.int .u8 0)]):=by kernel_rfl
theorem AGZ (x0:Int)(x1:ByteArray)(x2:ByteArray):AV Zc Zi [(0,.int .i64 x0),(1,.string x1),(2,.string x2)]=some (.agg #[.int .i64 x0,.string x1,.string x2,(.int .i64 0),(.int .i64 0),(.int .u8 0),(.slice none 0 0),(.slice none 0 0),(Value.string (ByteArray.mk #[])),(.bool false)]):=by kernel_rfl
theorem AGY (x0:Int)(x1:Int)(x2:Int):AV Zc Zi [(0,.int .i64 x0),(3,.int .i64 x1),(4,.int .i64 x2)]=some (.agg #[.int .i64 x0,(Value.string (ByteArray.mk #[])),(Value.string (ByteArray.mk #[])),.int .i64 x1,.int .i64 x2,(.int .u8 0),(.slice none 0 0),(.slice none 0 0),(Value.string (ByteArray.mk #[])),(.bool false)]):=by kernel_rfl
theorem AGX (x0:Int)(x1:Int):AV Zh #[(0,1),(1,1)] [(0,.int .i64 x0),(1,.int .i64 x1)]=some (.agg #[.int .i64 x0,.int .i64 x1]):=by kernel_rfl
theorem AGW:AV Zh #[(0,1),(1,1)] []=some (.agg Zh):=by kernel_rfl
theorem AGV (x0:Option Addr)(x1:Nat)(x2:Nat):AV #[(.slice none 0 0)] #[(0,1)] [(0,.slice x0 x1 x2)]=some (.agg #[.slice x0 x1 x2]):=by kernel_rfl
theorem AGU (x0:ByteArray)(x1:Option Addr)(x2:Nat)(x3:Nat):AV #[(Value.string (ByteArray.mk #[])),(.int .i64 0),(.slice none 0 0)] #[(0,1),(1,1),(2,1)] [(0,.string x0),(2,.slice x1 x2 x3)]=some (.agg #[.string x0,(.int .i64 0),.slice x1 x2 x3]):=by kernel_rfl
theorem AGT (x0:Int)(x1:Int):AV Zj Zp [(0,.int .i64 x0),(1,.int .i64 x1)]=some (.agg #[.int .i64 x0,.int .i64 x1,(Value.string (ByteArray.mk #[])),(.int .i64 0)]):=by kernel_rfl
theorem AGS (x0:Int)(x1:Bool)(x2:Option Addr)(x3:Nat)(x4:Nat)(x5:Option Addr)(x6:Nat)(x7:Nat)(x8:Int)(x9:Int)(x10:Bool)(x11:Int)(x12:ByteArray)(x13:ByteArray)(x14:ByteArray)(x15:Int)(x16:Int)(x17:Bool)(x18:Option Addr)(x19:Nat)(x20:Nat)(x21:Option Addr)(x22:Nat)(x23:Nat)(x24:Int)(x25:Int)(x26:Bool)(x27:Int)(x28:ByteArray)(x29:ByteArray)(x30:ByteArray)(x31:Int)(x32:Int)(x33:Bool)(x34:Option Addr)(x35:Nat)(x36:Nat)(x37:Option Addr)(x38:Nat)(x39:Nat)(x40:Int)(x41:Int):AV Ze Zm [(0,.int .i64 x0),(1,.agg #[.bool x1,.slice x2 x3 x4,.slice x5 x6 x7,.int .i64 x8,.int .i64 x9,.bool x10,.int .i64 x11,.string x12,.string x13,.string x14,.int .i64 x15,.int .i64 x16,.bool x17,.slice x18 x19 x20,.slice x21 x22 x23,.int .i64 x24,.int .i64 x25,.bool x26,.int .i64 x27,.string x28,.string x29,.string x30,.int .i64 x31,.int .i64 x32,.bool x33,.slice x34 x35 x36,.slice x37 x38 x39,.int .i64 x40,.int .i64 x41])]=some (.agg #[.int .i64 x0,.bool x1,.slice x2 x3 x4,.slice x5 x6 x7,.int .i64 x8,.int .i64 x9,.bool x10,.int .i64 x11,.string x12,.string x13,.string x14,.int .i64 x15,.int .i64 x16,.bool x17,.slice x18 x19 x20,.slice x21 x22 x23,.int .i64 x24,.int .i64 x25,.bool x26,.int .i64 x27,.string x28,.string x29,.string x30,.int .i64 x31,.int .i64 x32,.bool x33,.slice x34 x35 x36,.slice x37 x38 x39,.int .i64 x40,.int .i64 x41,(Value.string (ByteArray.mk #[])),(.slice none 0 0),(.slice none 0 0),(.slice none 0 0),(.int .i64 0),(.int .i64 0),(.bool false),(.int .i64 0),(Value.string (ByteArray.mk #[])),(Value.string (ByteArray.mk #[])),(Value.string (ByteArray.mk #[])),(.int .i64 0),(.int .i64 0),(.bool false),(.slice none 0 0),(.slice none 0 0),(.slice none 0 0),(Value.string (ByteArray.mk #[])),(Value.string (ByteArray.mk #[])),(.slice none 0 0),(.bool false)]):=by kernel_rfl
theorem AGR (x0:Int)(x1:ByteArray):AV Ze Zm [(0,.int .i64 x0),(2,.string x1)]=some (.agg #[.int .i64 x0,(.bool false),(.slice none 0 0),(.slice none 0 0),(.int .i64 0),(.int .i64 0),(.bool false),(.int .i64 0),(Value.string (ByteArray.mk #[])),(Value.string (ByteArray.mk #[])),(Value.string (ByteArray.mk #[])),(.int .i64 0),(.int .i64 0),(.bool false),(.slice none 0 0),(.slice none 0 0),(.int .i64 0),(.int .i64 0),(.bool false),(.int .i64 0),(Value.string (ByteArray.mk #[])),(Value.string (ByteArray.mk #[])),(Value.string (ByteArray.mk #[])),(.int .i64 0),(.int .i64 0),(.bool false),(.slice none 0 0),(.slice none 0 0),(.int .i64 0),(.int .i64 0),.string x1,(.slice none 0 0),(.slice none 0 0),(.slice none 0 0),(.int .i64 0),(.int .i64 0),(.bool false),(.int .i64 0),(Value.string (ByteArray.mk #[])),(Value.string (ByteArray.mk #[])),(Value.string (ByteArray.mk #[])),(.int .i64 0),(.int .i64 0),(.bool false),(.slice none 0 0),(.slice none 0 0),(.slice none 0 0),(Value.string (ByteArray.mk #[])),(Value.string (ByteArray.mk #[])),(.slice none 0 0),(.bool false)]):=by kernel_rfl
theorem AGQ (x0:ByteArray):AV Zb1 Zp [(0,.string x0)]=some (.agg #[.string x0,(Value.string (ByteArray.mk #[])),(.slice none 0 0),(.bool false)]):=by kernel_rfl
theorem AGP (x0:Int)(x1:ByteArray)(x2:ByteArray)(x3:Option Addr)(x4:Nat)(x5:Nat)(x6:Bool):AV Ze Zm [(0,.int .i64 x0),(9,.agg #[.string x1,.string x2,.slice x3 x4 x5,.bool x6])]=some (.agg #[.int .i64 x0,(.bool false),(.slice none 0 0),(.slice none 0 0),(.int .i64 0),(.int .i64 0),(.bool false),(.int .i64 0),(Value.string (ByteArray.mk #[])),(Value.string (ByteArray.mk #[])),(Value.string (ByteArray.mk #[])),(.int .i64 0),(.int .i64 0),(.bool false),(.slice none 0 0),(.slice none 0 0),(.int .i64 0),(.int .i64 0),(.bool false),(.int .i64 0),(Value.string (ByteArray.mk #[])),(Value.string (ByteArray.mk #[])),(Value.string (ByteArray.mk #[])),(.int .i64 0),(.int .i64 0),(.bool false),(.slice none 0 0),(.slice none 0 0),(.int .i64 0),(.int .i64 0),(Value.string (ByteArray.mk #[])),(.slice none 0 0),(.slice none 0 0),(.slice none 0 0),(.int .i64 0),(.int .i64 0),(.bool false),(.int .i64 0),(Value.string (ByteArray.mk #[])),(Value.string (ByteArray.mk #[])),(Value.string (ByteArray.mk #[])),(.int .i64 0),(.int .i64 0),(.bool false),(.slice none 0 0),(.slice none 0 0),(.slice none 0 0),.string x1,.string x2,.slice x3 x4 x5,.bool x6]):=by kernel_rfl
theorem AGO (x0:Int):AV Ze Zm [(0,.int .i64 x0)]=some (.agg #[.int .i64 x0,(.bool false),(.slice none 0 0),(.slice none 0 0),(.int .i64 0),(.int .i64 0),(.bool false),(.int .i64 0),(Value.string (ByteArray.mk #[])),(Value.string (ByteArray.mk #[])),(Value.string (ByteArray.mk #[])),(.int .i64 0),(.int .i64 0),(.bool false),(.slice none 0 0),(.slice none 0 0),(.int .i64 0),(.int .i64 0),(.bool false),(.int .i64 0),(Value.string (ByteArray.mk #[])),(Value.string (ByteArray.mk #[])),(Value.string (ByteArray.mk #[])),(.int .i64 0),(.int .i64 0),(.bool false),(.slice none 0 0),(.slice none 0 0),(.int .i64 0),(.int .i64 0),(Value.string (ByteArray.mk #[])),(.slice none 0 0),(.slice none 0 0),(.slice none 0 0),(.int .i64 0),(.int .i64 0),(.bool false),(.int .i64 0),(Value.string (ByteArray.mk #[])),(Value.string (ByteArray.mk #[])),(Value.string (ByteArray.mk #[])),(.int .i64 0),(.int .i64 0),(.bool false),(.slice none 0 0),(.slice none 0 0),(.slice none 0 0),(Value.string (ByteArray.mk #[])),(Value.string (ByteArray.mk #[])),(.slice none 0 0),(.bool false)]):=by kernel_rfl
theorem AGN (x0:Int):AV #[(.int .i64 0)] #[(0,1)] [(0,.int .i64 x0)]=some (.agg #[.int .i64 x0]):=by kernel_rfl
theorem AGM (x0:Int):AV Zj Zp [(1,.int .i64 x0)]=some (.agg #[(.int .i64 0),.int .i64 x0,(Value.string (ByteArray.mk #[])),(.int .i64 0)]):=by kernel_rfl
theorem AGL (x0:Int)(x1:Bool):AV Zc1 #[(0,1),(1,1),(2,1),(3,11),(14,1),(15,11),(26,1),(27,1),(28,1)] [(7,.int .i64 x0),(0,.bool x1)]=some (.agg #[.bool x1,(.slice none 0 0),(.slice none 0 0),(.int .i64 0),(.int .i64 0),(.bool false),(.int .i64 0),(Value.string (ByteArray.mk #[])),(Value.string (ByteArray.mk #[])),(Value.string (ByteArray.mk #[])),(.int .i64 0),(.int .i64 0),(.bool false),(.slice none 0 0),(.slice none 0 0),(.int .i64 0),(.int .i64 0),(.bool false),(.int .i64 0),(Value.string (ByteArray.mk #[])),(Value.string (ByteArray.mk #[])),(Value.string (ByteArray.mk #[])),(.int .i64 0),(.int .i64 0),(.bool false),(.slice none 0 0),(.slice none 0 0),.int .i64 x0,(.int .i64 0)]):=by kernel_rfl
theorem AGK (x0:ByteArray):AV Zt #[(0,1),(1,11)] [(0,.string x0)]=some (.agg #[.string x0,(.int .i64 0),(.int .i64 0),(.bool false),(.int .i64 0),(Value.string (ByteArray.mk #[])),(Value.string (ByteArray.mk #[])),(Value.string (ByteArray.mk #[])),(.int .i64 0),(.int .i64 0),(.bool false),(.slice none 0 0)]):=by kernel_rfl
theorem AGJ:AV Zb Zn []=some (.agg Zb):=by kernel_rfl
theorem AGI (x0:Bool):AV Zb1 Zp [(3,.bool x0)]=some (.agg #[(Value.string (ByteArray.mk #[])),(Value.string (ByteArray.mk #[])),(.slice none 0 0),.bool x0]):=by kernel_rfl
theorem AGH (x0:Bool):AV Zg Zr [(0,.bool x0)]=some (.agg #[.bool x0,(Value.string (ByteArray.mk #[])),(.int .i64 0),(.int .i64 0),(.bool false),(.int .i64 0),(Value.string (ByteArray.mk #[])),(Value.string (ByteArray.mk #[])),(Value.string (ByteArray.mk #[])),(.int .i64 0),(.int .i64 0),(.bool false),(.slice none 0 0),(Value.string (ByteArray.mk #[]))]):=by kernel_rfl
theorem AGG (x0:Bool)(x1:ByteArray):AV Zg Zr [(0,.bool x0),(1,.string x1)]=some (.agg #[.bool x0,.string x1,(.int .i64 0),(.int .i64 0),(.bool false),(.int .i64 0),(Value.string (ByteArray.mk #[])),(Value.string (ByteArray.mk #[])),(Value.string (ByteArray.mk #[])),(.int .i64 0),(.int .i64 0),(.bool false),(.slice none 0 0),(Value.string (ByteArray.mk #[]))]):=by kernel_rfl
theorem AGF (x0:Int)(x1:Int)(x2:Bool)(x3:Int)(x4:ByteArray)(x5:ByteArray)(x6:ByteArray)(x7:Int)(x8:Int)(x9:Bool)(x10:Option Addr)(x11:Nat)(x12:Nat):AV Zg Zr [(2,.agg #[.int .i64 x0,.int .i64 x1,.bool x2,.int .i64 x3,.string x4,.string x5,.string x6,.int .i64 x7,.int .i64 x8,.bool x9,.slice x10 x11 x12])]=some (.agg #[(.bool false),(Value.string (ByteArray.mk #[])),.int .i64 x0,.int .i64 x1,.bool x2,.int .i64 x3,.string x4,.string x5,.string x6,.int .i64 x7,.int .i64 x8,.bool x9,.slice x10 x11 x12,(Value.string (ByteArray.mk #[]))]):=by kernel_rfl
theorem AGE (x0:Int)(x1:Int)(x2:Bool)(x3:Int)(x4:ByteArray)(x5:ByteArray)(x6:ByteArray)(x7:Int)(x8:Int)(x9:Bool)(x10:Option Addr)(x11:Nat)(x12:Nat):AV Zu #[(0,11),(11,1)] [(0,.agg #[.int .i64 x0,.int .i64 x1,.bool x2,.int .i64 x3,.string x4,.string x5,.string x6,.int .i64 x7,.int .i64 x8,.bool x9,.slice x10 x11 x12])]=some (.agg #[.int .i64 x0,.int .i64 x1,.bool x2,.int .i64 x3,.string x4,.string x5,.string x6,.int .i64 x7,.int .i64 x8,.bool x9,.slice x10 x11 x12,(.bool false)]):=by kernel_rfl
theorem AGD (x0:ByteArray):AV Zk #[(0,1),(1,1),(2,1),(3,11)] [(0,.string x0)]=some (.agg #[.string x0,(Value.string (ByteArray.mk #[])),(.bool false),(.int .i64 0),(.int .i64 0),(.bool false),(.int .i64 0),(Value.string (ByteArray.mk #[])),(Value.string (ByteArray.mk #[])),(Value.string (ByteArray.mk #[])),(.int .i64 0),(.int .i64 0),(.bool false),(.slice none 0 0)]):=by kernel_rfl
theorem AGC (x0:Int)(x1:Option Addr)(x2:Nat)(x3:Nat):AV Zb Zn [(0,.int .i64 x0),(7,.slice x1 x2 x3)]=some (.agg #[.int .i64 x0,(.int .i64 0),(.bool false),(.int .i64 0),(Value.string (ByteArray.mk #[])),(Value.string (ByteArray.mk #[])),(Value.string (ByteArray.mk #[])),(.int .i64 0),(.int .i64 0),(.bool false),.slice x1 x2 x3]):=by kernel_rfl
theorem AGB (x0:ByteArray):AV Zw #[(0,1),(1,1),(2,1),(3,1),(4,1),(5,11)] [(0,.string x0)]=some (.agg #[.string x0,(.int .i64 0),(.bool false),(.bool false),(.bool false),(.int .i64 0),(.int .i64 0),(.bool false),(.int .i64 0),(Value.string (ByteArray.mk #[])),(Value.string (ByteArray.mk #[])),(Value.string (ByteArray.mk #[])),(.int .i64 0),(.int .i64 0),(.bool false),(.slice none 0 0)]):=by kernel_rfl
theorem AGA (x0:Int)(x1:ByteArray):AV Zs Zp [(0,.int .i64 x0),(3,.string x1)]=some (.agg #[.int .i64 x0,(.bool false),(.int .i64 0),.string x1]):=by kernel_rfl
theorem AFz (x0:Int)(x1:Int)(x2:Bool)(x3:Int)(x4:ByteArray):AV Zb Zn [(0,.int .i64 x0),(1,.agg #[.int .i64 x1,.bool x2,.int .i64 x3,.string x4])]=some (.agg #[.int .i64 x0,.int .i64 x1,.bool x2,.int .i64 x3,.string x4,(Value.string (ByteArray.mk #[])),(Value.string (ByteArray.mk #[])),(.int .i64 0),(.int .i64 0),(.bool false),(.slice none 0 0)]):=by kernel_rfl
theorem AFy (x0:Int)(x1:Int):AV Zs Zp [(0,.int .i64 x0),(2,.int .i64 x1)]=some (.agg #[.int .i64 x0,(.bool false),.int .i64 x1,(Value.string (ByteArray.mk #[]))]):=by kernel_rfl
theorem AFx (x0:Int):AV Zs Zp [(0,.int .i64 x0)]=some (.agg #[.int .i64 x0,(.bool false),(.int .i64 0),(Value.string (ByteArray.mk #[]))]):=by kernel_rfl
theorem AFw (x0:Int)(x1:Bool):AV Zs Zp [(0,.int .i64 x0),(1,.bool x1)]=some (.agg #[.int .i64 x0,.bool x1,(.int .i64 0),(Value.string (ByteArray.mk #[]))]):=by kernel_rfl
theorem AFv (x0:Int)(x1:ByteArray)(x2:ByteArray):AV Zb Zn [(0,.int .i64 x0),(2,.string x1),(3,.string x2)]=some (.agg #[.int .i64 x0,(.int .i64 0),(.bool false),(.int .i64 0),(Value.string (ByteArray.mk #[])),.string x1,.string x2,(.int .i64 0),(.int .i64 0),(.bool false),(.slice none 0 0)]):=by kernel_rfl
theorem AFu (x0:Int)(x1:ByteArray):AV Zb Zn [(0,.int .i64 x0),(3,.string x1)]=some (.agg #[.int .i64 x0,(.int .i64 0),(.bool false),(.int .i64 0),(Value.string (ByteArray.mk #[])),(Value.string (ByteArray.mk #[])),.string x1,(.int .i64 0),(.int .i64 0),(.bool false),(.slice none 0 0)]):=by kernel_rfl
theorem AFt (x0:Int):AV Zb Zn [(0,.int .i64 x0)]=some (.agg #[.int .i64 x0,(.int .i64 0),(.bool false),(.int .i64 0),(Value.string (ByteArray.mk #[])),(Value.string (ByteArray.mk #[])),(Value.string (ByteArray.mk #[])),(.int .i64 0),(.int .i64 0),(.bool false),(.slice none 0 0)]):=by kernel_rfl
end Go.Proofs.YthkaekjoemhjaaaGreatDoor
namespace Go.SL
section
variable {I:Imm}{L:LH}{K:Value→M}
theorem BJ {A B:M}(e:A=B)(h:B I L):A I L:=e ▸ h
theorem APk {b b':Bool}(h:K (.bool b) I L)(e:b=b'):K (.bool b') I L:=e ▸ h
end
theorem SS (A B:M):Gd (.bool true) true A B=A:=rfl
theorem SV (A B:M):Gd (.bool false) true A B=B:=rfl
theorem ABB (A B:M):Gd (.bool true) false A B=B:=rfl
theorem ABC (A B:M):Gd (.bool false) false A B=A:=rfl
class LSub (L L':LH):Prop where
 sub:∀x∈L,x∈L'
instance (priority:=100) lsubRefl (L:LH):LSub L L:=⟨λ_ h=>h⟩
instance (priority:=110) lsubNil (L:LH):LSub [] L:=⟨λ_ h=>by cases h⟩
instance (priority:=90) lsubCons (L L':LH)(y:Nat×Obj)[h:LSub L L']:LSub L (y::L'):=⟨λx hx=>zH _ (h.sub x hx)⟩
instance (priority:=90) lsubApp (L A L':LH)[h:LSub L L']:LSub L (A++L'):=⟨λx hx=>zam _ (h.sub x hx)⟩
instance (priority:=80) lsubAppL (L A L':LH)[h:LSub L A]:LSub L (A++L'):=⟨λx hx=>zae _ (h.sub x hx)⟩
section readsC
variable {I I0 I1:Imm}{L L0 X:LH}{K:Value→M}{b off n:Nat}{v:Value}
theorem Cells.mono {vs:List Value}(h:Cells I0 L0 b off vs)(hI:Ext I0 I)(hL:∀x∈L0,x∈L):Cells I L b off vs:=λj u hu=>(h j u hu).mono hI hL
theorem rdC [hl:LSub L0 L](hc:Cell I0 L0 b off v)(hI:Ext I0 I)(hk:K v I L):Rv none (BN (.pointer (some ⟨b,off,none⟩))) K I L:=rd1 (hc.mono hI hl.sub) hk
theorem Tz [hl:LSub L0 L]{vs:List Value}(hc:Cells I0 L0 b off vs)(hI:Ext I0 I)(hn:vs.length=n)(hk:K (.agg vs.toArray) I L):Rv none (AO n (.pointer (some ⟨b,off,none⟩))) K I L:=rdN hn (hc.mono hI hl.sub) hk
theorem Dc [hl:LSub X L](hI:Ext I0 I)(hk:K v I L):AQ (Stay I0 X) K v I L:=AKt hI hl.sub hk
theorem keepA [hl:LSub X L](hk:K v I L)(hI:Ext I0 I:=by repeat (first|exact zAC _|assumption|refine zAB ?_ zA)):AQ (Stay I0 X) K v I L:=Dc hI hk
theorem Dy {B:M→M}(h:B (Stay I L) I L):CO B I L:=draw _ (Stay.start I L) h
end readsC
def QG {α:Type}[Inhabited α](l:List α)(i:Int):α:=l.getD i.toNat default
theorem BH {α:Type}[Inhabited α]{l:List α}{k:Nat}(h:k < l.length):QG l (k:Int)=l[k]:=by
 simp [QG,List.getD,h]
theorem ACG {α:Type}[Inhabited α]{l:List α}{i:Int}(h0:0≤i)(h1:i < l.length):l[i.toNat]? =some (QG l i):=by
 have:i.toNat < l.length:=by omega
 simp [QG,List.getD,this]
theorem AAj (b off n:Nat)(k:IntKind)(len cap:Nat)(i:Int)(h0:0≤i)(h1:i < len):ixV n (.slice (some ⟨b,off,none⟩) len cap) (.int k i)=some (.pointer (some ⟨b,off+i.toNat * n,none⟩)):=by
 simp only [ixV];rw [if_pos ⟨h0,h1⟩]
theorem News.ix {I:Imm}{L:LH}{n m:Nat}{a:Option Addr}{cap:Nat}{cells:List Value}(h:News n (.slice a m cap) I L m cells)(k:IntKind){i:Int}(h0:0≤i)(h1:i < m):
  ∃b off,ixV n (.slice a m cap) (.int k i)=some (.pointer (some ⟨b,off,none⟩))∧∀I' L',Ext I I'→(∀x∈L,x∈L')→Cells I' L' b off ((cells.drop (i.toNat * n)).take n):=by
 rcases h with ⟨a',cap',h2,h3,_⟩|⟨b,off,cap',h2,hl,hc⟩|⟨s,h2,_⟩
 ·omega
 ·simp only [Value.slice.injEq] at h2;obtain ⟨rfl,_,rfl⟩:=h2;refine ⟨b,off+i.toNat * n,AAj b off n k m cap i h0 h1,λI' L' hI hL j u hu=>?_⟩;rw [zaE] at hu;split at hu
  ·rw [zax] at hu;have:=(hc _ u hu).mono hI hL;rwa [←zbp] at this
  ·cases hu
 ·cases h2
def RL {α:Type}(R:Imm→α→List Value→Prop)(n:Nat)(I:Imm)(L:LH)(v:Value)(xs:List α):Prop:=
 ∃a cap cells,v= .slice a xs.length cap∧xs.length≤cap∧News n v I L xs.length cells∧Recs (R I) n xs cells
section rl
variable {α:Type}{R:Imm→α→List Value→Prop}{n:Nat}{I I':Imm}{L L':LH}{v:Value}{xs:List α}
theorem RL.len (h:RL R n I L v xs):lenV v=some (.int .i64 xs.length):=by
 obtain ⟨a,cap,cells,rfl,_⟩:=h;rfl
theorem zAQ:type_of% @RL.len:=@RL.len
theorem RL.form (h:RL R n I L v xs):∃a cap,v= .slice a xs.length cap:=by
 obtain ⟨a,cap,cells,rfl,_⟩:=h;exact ⟨a,cap,rfl⟩
theorem zAH:type_of% @RL.form:=@RL.form
theorem News.mono {m:Nat}{news:List Value}(h:News n v I L m news)(hI:Ext I I')(hL:∀x∈L,x∈L'):News n v I' L' m news:=by
 rcases h with h|⟨b,off,cap,h1,h2,h3⟩|h
 ·exact .inl h
 ·exact .inr (.inl ⟨b,off,cap,h1,h2,λj u hu=>(h3 j u hu).mono hI hL⟩)
 ·exact .inr (.inr h)
theorem RL.mono (hR:∀x c,R I x c→R I' x c)(h:RL R n I L v xs)(hI:Ext I I')(hL:∀x∈L,x∈L'):RL R n I' L' v xs:=by
 obtain ⟨a,cap,cells,hv,hc,hn,hr⟩:=h;exact ⟨a,cap,cells,hv,hc,hn.mono hI hL,hr.imp hR⟩
theorem zAL:type_of% @RL.mono:=@RL.mono
theorem RL.ofI {cells:List Value}(h:SlI I n v cells xs.length)(hr:Recs (R I) n xs cells):RL R n I L v xs:=by
 have hn:=SlI.news (L:=L) h;obtain ⟨_,a,cap,hv,hle,_⟩:=h;exact ⟨a,cap,cells,hv,hle,hn,hr⟩
theorem RL.nil (a:Option Addr)(cap:Nat):RL R n I L (.slice a 0 cap) []:=⟨a,cap,[],rfl,zaw _,.inl ⟨a,cap,rfl,rfl,rfl⟩,rfl⟩
theorem zAD:type_of% @RL.nil:=@RL.nil
theorem RL.ix [Inhabited α](h:RL R n I L v xs){i:Int}(h0:0≤i)(h1:i < xs.length):
  ∃b off c,ixV n v (.int .i64 i)=some (.pointer (some ⟨b,off,none⟩))∧c.length=n∧R I (QG xs i) c∧∀I' L',Ext I I'→(∀x∈L,x∈L')→Cells I' L' b off c:=by
 obtain ⟨a,cap,cells,rfl,_,hn,hr⟩:=h;obtain ⟨b,off,hix,hc⟩:=News.ix hn .i64 h0 h1;obtain ⟨g1,g2⟩:=hr.get (ACG h0 h1);exact ⟨b,off,_,hix,g1,g2,hc⟩
theorem RL.part (h:RL R n I L v xs){lo hi:Nat}(h1:lo≤hi)(h2:hi≤xs.length)(blo bhi:Option Value)(hlo:DL blo 0 hi=some lo)(hhi:∀cap,xs.length≤cap→DL bhi xs.length cap=some hi):
  ∃v',Cb n v blo bhi none=some v'∧RL R n I L v' ((xs.drop lo).take (hi - lo)):=by
 obtain ⟨a,cap,cells,rfl,hcap,hn,hr⟩:=h;have hb1:=hhi cap hcap;have hlen:((xs.drop lo).take (hi - lo)).length=hi - lo:=by rw [zB,zZ];omega
 refine ⟨.slice (if cap=lo then a else a.map (·.add (lo * n))) (hi - lo) (cap - lo),?_,_,cap - lo,(cells.drop (lo * n)).take ((hi - lo) * n),by rw [hlen],by rw [hlen];omega,?_,?_⟩
 ·simp only [Cb];rw [if_neg zy];simp only [DL] at hb1 hlo ⊢;simp [hb1,hlo]
 ·rw [hlen];by_cases h0:hi - lo=0
  ·rw [h0];exact .inl ⟨_,_,rfl,rfl,by simp⟩
  ·rcases hn with ⟨a',cap',e1,e2,_⟩|⟨b,off,cap',e1,hl,hc⟩|⟨s,e1,_⟩
   ·omega
   ·simp only [Value.slice.injEq] at e1;obtain ⟨rfl,_,rfl⟩:=e1;refine .inr (.inl ⟨b,off+lo * n,cap - lo,by rw [if_neg zo];simp [Cm],?_,λj u hu=>?_⟩)
    ·rw [zB,zZ,hl];apply zba
     rw [←Nat.sub_mul];exact zaB n zo
    ·rw [zaE] at hu;split at hu
     ·rw [zax] at hu;have:=hc _ u hu;rwa [←zbp] at this
     ·cases hu
   ·cases e1
 ·exact (hr.drop lo).take (hi - lo)
theorem RL.clip (h:RL R n I L v xs){j:Nat}(hj:j≤xs.length):∃a',Cb n v none (some (.int .i64 j)) (some (.int .i64 j))=some (.slice a' j j)∧RL R n I L (.slice a' j j) (xs.take j):=by
 obtain ⟨a,cap,cells,rfl,hcap,hn,hr⟩:=h;have hlen:(xs.take j).length=j:=by rw [zB];omega
 refine ⟨if j=0 then a else a.map (·.add (0 * n)),?_,_,j,cells.take (j * n),by rw [hlen],by rw [hlen];exact zt _,?_,hr.take j⟩
 ·simp only [Cb,Option.isNone_some,Bool.false_and,zl,if_false];rw [KW _ _ _ _ zo,zbw,KW _ _ _ _ (zt _),zbw,show DL none 0 j=some 0 from rfl,zbw];simp
 ·rw [hlen];by_cases h0:j=0
  ·subst h0;exact .inl ⟨_,_,rfl,rfl,by simp⟩
  ·rcases hn with ⟨a',cap',e1,e2,_⟩|⟨b,off,cap',e1,hl,hc⟩|⟨s,e1,_⟩
   ·omega
   ·simp only [Value.slice.injEq] at e1;obtain ⟨rfl,_,rfl⟩:=e1;refine .inr (.inl ⟨b,off,j,by rw [if_neg h0];simp [Cm],?_,λi u hu=>?_⟩)
    ·rw [zB,hl];exact zba (zaB n hj)
    ·rw [zaE] at hu;split at hu
     ·exact hc _ u hu
     ·cases hu
   ·cases e1
end rl
def GrO (I:Imm)(T n:Nat)(X:LH)(v:Value)(cells:List Value)(len:Nat):Prop:=
 SlO T n X v cells len∨(X=[]∧(∃a,v= .slice a len len)∧SlI I n v cells len)
theorem GrO.mono {I I':Imm}{T n:Nat}{X:LH}{v:Value}{cells:List Value}{len:Nat}(h:GrO I T n X v cells len)(hI:Ext I I'):GrO I' T n X v cells len:=by
 rcases h with h|⟨h1,h2,h3⟩
 ·exact .inl h
 ·exact .inr ⟨h1,h2,h3.mono hI⟩
theorem GrO.news {I:Imm}{T n len:Nat}{X F:LH}{v:Value}{cells:List Value}(h:GrO I T n X v cells len)(hF:∀x∈X,x∈F):News n v I F len cells:=by
 rcases h with h|⟨h1,h2,h3⟩
 ·exact h.news hF
 ·exact SlI.news h3
theorem GrO.form {I:Imm}{T n len:Nat}{X:LH}{v:Value}{cells:List Value}(h:GrO I T n X v cells len):∃a cap,v= .slice a len cap∧len≤cap:=by
 rcases h with h|⟨h1,⟨a,h2⟩,h3⟩
 ·obtain ⟨_,h⟩:=h;rcases h with ⟨_,rfl,a,rfl⟩|⟨b,cap,cs,_,rfl,_,hle,_⟩
  ·exact ⟨a,0,rfl,zt _⟩
  ·exact ⟨_,cap,rfl,hle⟩
 ·exact ⟨a,len,h2,zt _⟩
theorem AGr {I:Imm}{L F:LH}(hp:L.Perm F){T n bytes len m:Nat}{z:Array Value}{s x:Value}{a:Option Addr}{olds news:List Value}{K:Value→M}(hz:z.size=n)(hs:s= .slice a len len)(ho:News n s I L len olds)(hn:News n x I L m news)
  (h1:∀u∈news,u.oneCell'=true) (hm:0 < m) (hb:(len+m) * bytes≤150000000000000) (hm':len+m≤150000000000000) (hk:∀X' v',SlO T n X' v' (olds++news) (len+m)→K v' I (X'++F)):App T n bytes z s x (gh K) I L:=by
 have hol:=ho.length;have hnl:=hn.length;have hlen:(olds++news).length=(len+m) * n:=by rw [zk,hol,hnl,zaA]
 refine ⟨a,len,len,m,news,hs,hn,h1,.inr (.inr ⟨by omega,hb,hm',olds,L,ho,List.Sublist.refl _,λb c hc=>?_⟩)⟩;refine Gh.perm (List.Perm.cons _ hp) (zAA (hk [(b,_)] _ ⟨hlen,.inr ⟨b,c,_,rfl,rfl,?_,hc,?_⟩⟩))
 ·simp only [Array.size_append,List.size_toArray,EY,hz,hlen];rw [←zaA];congr 1;omega
 ·intro j u hu;have hlt:j < (olds++news).length:=(zaj.1 hu).1;rw [zaP (by simpa using hlt)];simpa using hu
theorem AOh {I:Imm}{X L F:LH}[hsp:SplitL X L F]{T n bytes len m:Nat}{z:Array Value}{s x:Value}{cells news:List Value}{K:Value→M}(hz:z.size=n)(ho:GrO I T n X s cells len)(hn:News n x I L m news)
  (h1:∀u∈news,u.oneCell'=true) (hb:(len+m) * bytes≤150000000000000) (hm:len+m≤150000000000000)
  (hk:∀X' v',GrO I T n X' v' (cells++news) (len+m)→K v' I (X'++F)):App T n bytes z s x (gh K) I L:=by
 rcases ho with ho|⟨rfl,⟨a,ha⟩,h3⟩
 ·exact BQ hz ho hn h1 hb hm (λX' v' h=>hk X' v' (.inl h))
 ·have hp:=hsp.perm;by_cases h0:m=0
  ·subst h0;have hnil:news=[]:=zQ (by simpa using hn.length);subst hnil;refine ⟨a,len,len,0,[],ha,hn,h1,.inl ⟨zt _,rfl,Gh.perm hp (zAA ?_)⟩⟩;have:=hk [] s (.inr ⟨rfl,⟨a,ha⟩,by simpa using h3⟩);rw [ha] at this;exact this
  ·exact AGr hp hz ha (SlI.news h3 (L:=L)) hn h1 zo hb hm (λX' v' h=>hk X' v' (.inl h))
theorem AAQ {I:Imm}{X L F:LH}[hsp:SplitL X L F]{T len:Nat}{v u:Value}{cells:List Value}{K:Value→M}{i:Int}(ho:SlO T 1 X v cells len)(h0:0≤i)(h1:i < len)(hu:u.oneCell'=true)
  (hk:∀X',SlO T 1 X' v (cells.set i.toNat u) len→K undef I (X'++F)):
  ∃b,ixV 1 v (.int .i64 i)=some (.pointer (some ⟨b,i.toNat,none⟩))∧Sto 1 (.pointer (some ⟨b,i.toNat,none⟩)) u (gh K) I L:=by
 have hp:=hsp.perm;obtain ⟨hl,ho'⟩:=ho;rcases ho' with ⟨rfl,rfl,a,rfl⟩|⟨b,cap,cs,rfl,rfl,hcs,hle,hc⟩
 ·omega
 ·refine ⟨b,by rw [AAj b 0 1 .i64 len cap i h0 h1,zaS,Nat.mul_one],?_⟩;have hmem:(b,Obj.cells cs T (0,0))∈L:=hp.mem_iff.2 (zae _ (zN.2 rfl));obtain ⟨L1,L2,rfl⟩:=List.append_of_mem hmem;have hF:(L1++L2).Perm F:=by
   have h2:(L1++(b,Obj.cells cs T (0,0))::L2).Perm ((b,Obj.cells cs T (0,0))::(L1++L2)):=zbg;exact (List.perm_cons _).1 (h2.symm.trans hp)
  have huc:u.cells=#[u]:=by cases u <;> first|rfl|simp [Value.oneCell'] at hu
  refine ⟨b,i.toNat,cs,T,(0,0),L1,L2,rfl,by simp [huc],by simp [huc];exact hu,by omega,.inl rfl,rfl,?_⟩;refine Gh.perm (zbg.trans (List.Perm.cons _ hF)) (zAA (hk [(b,_)] ⟨by simp [hl],.inr ⟨b,cap,_,rfl,rfl,by rw [Nw];exact hcs,hle,?_⟩⟩));intro j w hw;simp only [huc,wr];rw [List.getElem?_set] at hw;split at hw
  ·rename_i e
   subst e;split at hw
   ·cases hw
    rw [Array.getElem?_setIfInBounds_self_of_lt zo]
   ·cases hw
  ·rename_i e
   rw [zaI e];exact hc j w hw
def str (l:List UInt8):Value:=.string ⟨l.toArray⟩
def StrV (_:Imm)(x:List UInt8)(c:List Value):Prop:=c=[.string ⟨x.toArray⟩]
def ARC (I:Imm)(x:List UInt8)(c:List Value):Prop:=∃v,c=[v]∧Bytes I v x
def AGx (k:IntKind)(_:Imm)(x:Int)(c:List Value):Prop:=c=[.int k x]
def MC {α:Type}(R:Imm→α→List Value→Prop)(n:Nat)(I:Imm)(xs:List α)(c:List Value):Prop:=∃v,c=[v]∧RL R n I [] v xs
theorem StrV.mono {I I':Imm}{x:List UInt8}{c:List Value}(h:StrV I x c)(hI:Ext I I'):StrV I' x c:=h
theorem Bytes.len {I:Imm}{v:Value}{l:List UInt8}(h:Bytes I v l):lenV v=some (.int .i64 l.length):=by
 obtain ⟨_,a,c,rfl,_⟩:=h;rfl
section
variable {rz:Nat}{P:Program}{W:World}{T:TypeId}
end
abbrev blt:List UInt8→List UInt8→Bool:=Op.bytesLess
theorem Jo (a:List UInt8):(⟨a.toArray⟩:ByteArray).toList=a:=by simp [Go.ByteArray.toList_mk]
theorem OX (a:List UInt8):(⟨a.toArray⟩:ByteArray).size=a.length:=by simp [ByteArray.size]
section
variable (a b:List UInt8)
theorem sEq:BF .eql (.string ⟨a.toArray⟩) (.string ⟨b.toArray⟩)=some (.bool (a==b)):=by simp only [BF,Jo]
theorem sNe:BF .neq (.string ⟨a.toArray⟩) (.string ⟨b.toArray⟩)=some (.bool (!(a==b))):=by simp only [BF,Jo]
theorem sLt:BF .lss (.string ⟨a.toArray⟩) (.string ⟨b.toArray⟩)=some (.bool (blt a b)):=by simp only [BF,Jo]
theorem sLe:BF .leq (.string ⟨a.toArray⟩) (.string ⟨b.toArray⟩)=some (.bool (blt a b||a==b)):=by simp only [BF,Jo]
theorem sGt:BF .gtr (.string ⟨a.toArray⟩) (.string ⟨b.toArray⟩)=some (.bool (!(blt a b||a==b))):=by simp only [BF,Jo]
theorem sGe:BF .geq (.string ⟨a.toArray⟩) (.string ⟨b.toArray⟩)=some (.bool (!(blt a b))):=by simp only [BF,Jo]
theorem AHU (h:a.length+b.length≤9223372036854775807):BF .add (.string ⟨a.toArray⟩) (.string ⟨b.toArray⟩)=some (.string ⟨(a++b).toArray⟩):=by
 simp only [BF,OX];rw [if_pos h];have:(⟨a.toArray⟩:ByteArray)++⟨b.toArray⟩=⟨(a++b).toArray⟩:=by
  apply ByteArray.ext
  simp
 rw [this]
theorem APc:CG (.string ⟨a.toArray⟩)=some (.int .i64 a.length):=by rw [AIC,OX]
end
theorem Yc (a b c d:Int):Np .eql [(TypeDesc.int .i64,0),(TypeDesc.int .i64,1)] (.agg #[.int .i64 a,.int .i64 b]) (.agg #[.int .i64 c,.int .i64 d])=some (.bool ((a==c)&&(b==d))):=by
 simp [Np,Na,eqD]
theorem Yb (a b c d:Int):Np .neq [(TypeDesc.int .i64,0),(TypeDesc.int .i64,1)] (.agg #[.int .i64 a,.int .i64 b]) (.agg #[.int .i64 c,.int .i64 d])=some (.bool !((a==c)&&(b==d))):=by
 simp [Np,Na,eqD]
theorem Vk (off n:Nat)(l:List Value):Fp true off n (.agg l.toArray)=some (.agg ((l.drop off).take n).toArray):=by
 simp only [Fp,if_true];congr 2
 apply Array.ext'
 simp [List.take_drop,Nat.add_comm]
theorem Vj (off n:Nat)(l:List Value):Fp false off n (.agg l.toArray)=l[off]? :=by
 simp [Fp]
def cmpL (a b:List UInt8):Int:=match (List.range (min a.length b.length)).find? λi=>a.getD i 0 != b.getD i 0 with
 |some i=>if a.getD i 0 < b.getD i 0 then -1 else 1
 |none=>if a.length < b.length then -1 else if a.length > b.length then 1 else 0
theorem AQy (a:List UInt8)(i:Nat):(⟨a.toArray⟩:ByteArray)[i]! =a.getD i 0:=by
 by_cases h:i < a.length
 ·have hs:i < (⟨a.toArray⟩:ByteArray).size:=by rw [OX];exact h
  rw [getElem!_pos (⟨a.toArray⟩:ByteArray) i hs];show a.toArray[i]'(by simpa using h)=_;simp [List.getD,h]
 ·have hs:¬i < (⟨a.toArray⟩:ByteArray).size:=by rw [OX];exact h
  rw [getElem!_neg (⟨a.toArray⟩:ByteArray) i hs];simp [List.getD,List.getElem?_eq_none (Nat.le_of_not_lt h)];rfl
section
variable {P:Program}{ω:Om}{I:Imm}{L:LH}{K:Value→M}
theorem ABu {w:World}{b off:Nat}{v:Value}(hs:St ω w I L)(hc:Cell I L b off v):(load ⟨b,off,none⟩).run P w= .ok v w:=by
 have:=hc.cell hs;simp [this]
theorem Jw {w:World}(hs:St ω w I L):∀(l:List UInt8) (b off:Nat) (acc:ByteArray),Cells I L b off (u8s l)→(Extern.Bytes.loadBytes ⟨b,off,none⟩ l.length acc).run P w= .ok ⟨acc.data++l.toArray⟩ w
 |[],b,off,acc,_=>by
  have:(⟨acc.data++([]:List UInt8).toArray⟩:ByteArray)=acc:=by cases acc;simp
  rw [this];simp [Extern.Bytes.loadBytes]
 |x::l,b,off,acc,hc=>by
  have h0:Cell I L b off (.int .u8 x.toNat):=by simpa using hc 0 _ rfl
  have h1:Cells I L b (off+1) (u8s l):=λj u hu=>by
   have:=hc (j+1) u (by simpa [u8s] using hu);rwa [show off+(j+1)=off+1+j from by omega] at this
  simp only [zf,Extern.Bytes.loadBytes,Sem.run_bind,ABu (P:=P) hs h0,Result.andThen_ok];have e:(Addr.add ⟨b,off,none⟩ 1)=⟨b,off+1,none⟩:=Cm _ _ _;rw [e,Jw hs l b (off+1) _ h1];congr 1
  have:((x.toNat:Int).toNat.toUInt8)=x:=by simp
  rw [this];cases acc
  simp [ByteArray.push]
theorem WE {w:World}{v:Value}{l:List UInt8}(hs:St ω w I L)(h:Bytes I v l):(Extern.Bytes.bytesOf v).run P w= .ok ⟨l.toArray⟩ w:=by
 obtain ⟨hl,a,cap,rfl,_,h⟩:=h;cases a with
 |none=>
  have h0:l.length=0:=by
   apply Classical.byContradiction
   intro h0;obtain ⟨b,off,cs,T,fr,e,_⟩:=h h0;cases e
  have:l=[]:=zQ h0;subst this;simp only [Extern.Bytes.bytesOf,Sem.run_pure];rfl
 |some a=>
  simp only [Extern.Bytes.bytesOf];by_cases h0:l.length=0
  ·have:l=[]:=zQ h0;subst this;simp only [zh,Extern.Bytes.loadBytes,Sem.run_pure];rfl
  ·obtain ⟨b,off,cs,T,fr,e,hb,hcs⟩:=h h0;simp only [zn] at e;subst e;rw [Jw hs l b off .empty (λj u hu=>Cell.imm hb (hcs j u hu))];congr 1
   simp [ByteArray.empty,ByteArray.emptyWithCapacity];rfl
end
section
variable {I I0:Imm}{L L' X:LH}{K:Value→M}{b off n T:Nat}
theorem AHn {l:List Value}{T:Nat}{fr:Nat×Nat}[h:InL b X (.cells l.toArray T fr)](vs:List Value)(he:(l.drop off).take n=vs)(hl:vs.length=n)(hk:K (.agg vs.toArray) I L):Rv (some (Stay I0 X)) (AO n (.pointer (some ⟨b,off,none⟩))) K I L:=
 ALq hl (λI' L' hS j u hu=>Cell.own (hS.2 _ h.mem) (by
  subst he;rw [zaE] at hu;split at hu
  ·rw [zax] at hu;simpa using hu
  ·cases hu)) hk
theorem stP {l vs:List Value}(l':List Value)[h:InL b L (.cells l.toArray T (0,0))](he:l.take off++(vs++l.drop (off+n))=l')(hl:vs.length=n)(hleb:Nat.ble (off+n) l.length=true)(h1:vs.all (·.oneCell')=true)[u:UpL b L (.cells l.toArray T (0,0)) (.cells l'.toArray T (0,0)) L'](hk:K undef I L'):
  Sto n (.pointer (some ⟨b,off,none⟩)) (.agg vs.toArray) (gh K) I L:=by
 have hle:=Nat.le_of_ble_eq_true hleb;obtain ⟨L1,L2,rfl,rfl⟩:=u.up;refine ⟨b,off,l.toArray,T,(0,0),L1,L2,rfl,by simp [Value.cells,hl],by simpa [Value.cells] using Ak h1,by simpa using hle,.inl rfl,rfl,?_⟩;simp only [Value.cells];rw [Oa vs l.toArray off zu];subst he;refine zAA ?_;rw [hl];simpa using hk
theorem AQv {v:Value}{l:List UInt8}{I0:Imm}(h:Bytes I0 v l)(hI:Ext I0 I)(hk:K (.string ⟨l.toArray⟩) I L):Rv none (bsR v) K I L:=⟨_,Bytes.str (h.mono hI),hk⟩
theorem AAt {P:Program}{ω:Om}{f:FuncId}{args:Array Value}(h:Gh (Cal P ω f args K) I L):Cal P ω f args K I L:=λw hs=>by
 obtain ⟨I',L',h1,h2⟩:=h hs.cons;exact h2 w (h1 ω w hs)
end
class MemB (x:Nat×Obj) (L:LH):Prop where
 mem:x∈L
instance memBRight (x:Nat×Obj)(A L:LH)[h:MemB x L]:MemB x (A++L):=⟨zam _ h.mem⟩
instance memBThere (x y:Nat×Obj)(L:LH)[h:MemB x L]:MemB x (y::L):=⟨zH _ h.mem⟩
instance memBHere (x:Nat×Obj)(L:LH):MemB x (x::L):=⟨zK ..⟩
instance (priority:=70) lsubConsL (x:Nat×Obj)(X L:LH)[h:MemB x L][h':LSub X L]:LSub (x::X) L:=⟨λy hy=>by
 rcases zX.1 hy with rfl|hy
 ·exact h.mem
 ·exact h'.sub y hy⟩
class DelB (b:Nat) (L:LH) (L':outParam LH):Prop where
 sub:∀x∈L',x∈L
instance delBThere (b:Nat)(x:Nat×Obj)(L L':LH)[h:DelB b L L']:DelB b (x::L) (x::L'):=⟨λy hy=>by
 rcases zX.1 hy with rfl|hy
 ·exact zK ..
 ·exact zH _ (h.sub y hy)⟩
instance delBHere (b:Nat)(o:Obj)(L:LH):DelB b ((b,o)::L) L:=⟨λy hy=>zH _ hy⟩
theorem Xy {I:Imm}{L X:LH}{B:M→M}{b off:Nat}[h:DelB b L X](hB:B (Stay I X) I L):SX [.pointer (some ⟨b,off,none⟩)] B I L:=draw _ ⟨zAC I,h.sub⟩ hB
theorem AMN {I:Imm}{L X Y:LH}{B:M→M}{b off c off':Nat}[h:DelB b L X][h':DelB c X Y](hB:B (Stay I Y) I L):SX [.pointer (some ⟨b,off,none⟩),.pointer (some ⟨c,off',none⟩)] B I L:=draw _ ⟨zAC I,λx hx=>h.sub x (h'.sub x hx)⟩ hB
class PickB (b:Nat) (L:LH) (o:outParam Obj) (R:outParam LH):Prop where
 perm:L.Perm ((b,o)::R)
instance pickBRight (b:Nat)(o:Obj)(A L R:LH)[h:PickB b L o R]:PickB b (A++L) o (A++R):=⟨(zbo A h.perm).trans zbg⟩
instance pickBThere (b:Nat)(o:Obj)(y:Nat×Obj)(L R:LH)[h:PickB b L o R]:PickB b (y::L) o (y::R):=⟨(List.Perm.cons y h.perm).trans (List.Perm.swap ..)⟩
instance pickBHere (b:Nat)(o:Obj)(R:LH):PickB b ((b,o)::R) o R:=⟨List.Perm.refl _⟩
theorem RL.hd {α:Type}[Inhabited α]{R:Imm→α→List Value→Prop}{I:Imm}{L:LH}{n:Nat}{v:Value}{xs:List α}(h:RL R n I L v xs)(h0:xs≠[]):
  ∃b off c,ixV n v (.int .i64 0)=some (.pointer (some ⟨b,off,none⟩))∧c.length=n∧R I (QG xs 0) c∧∀I' L',Ext I I'→(∀x∈L,x∈L')→Cells I' L' b off c:=
 RL.ix h zo (by have:=zby.2 h0;omega)
section
variable {α:Type}{R:Imm→α→List Value→Prop}{I:Imm}{T n bytes:Nat}{z:Array Value}{X6 L0 F:LH}{v:Value}{xs:List α}{x:α}{c cells:List Value}{K:Value→M}
theorem Gw [SplitL X6 L0 F](hz:z.size=n)(hn:0 < n)(h6:SlO T n X6 v cells xs.length)(hR:Recs (R I) n xs cells)(hx:R I x c)(hcl:c.length=n)(h1:∀u∈c,u.oneCell'=true)(hb:(xs.length+1) * bytes≤150000000000000)(hl:xs.length+1≤150000000000000)
  (hk:∀X1 X6' v' cells',SlO T n X6' v' cells' (xs++[x]).length→Recs (R I) n (xs++[x]) cells'→K v' I (X6'++(X1++F))):
  AB T n z 1 [(0,.agg c.toArray)] (gh λu=>App T n bytes z v u (gh K)) I L0:=by
 refine CU hz hn (by simpa [Value.cells] using hcl) (λX1 u hX1=>?_);refine BQ (X:=X6) hz h6 (hX1.news (λx hx=>zae _ hx)) (λu hu=>h1 u (by simpa [Value.cells] using hu)) hb hl (λX' v' hX'=>?_);exact hk X1 X' v' _ (by simpa [Value.cells] using hX') (Recs.append hR (Recs.one (by simpa [Value.cells] using hcl) (by simpa [Value.cells] using hx)))
theorem AEb {I0:Imm}{Y:LH}[SplitL X6 L0 F](hI0:Ext I0 I)(hY:∀y∈Y,y∈L0)(hz:z.size=n)(hn:0 < n)(h6:SlO T n X6 v cells xs.length)(hR:Recs (R I) n xs cells)(hx:R I x c)(hcl:c.length=n)(h1:∀u∈c,u.oneCell'=true)(hb:(xs.length+1) * bytes≤150000000000000)(hl:xs.length+1≤150000000000000)
  (hk:∀X1 X6' a' c' cells',SlO T n X6' (.slice a' (xs++[x]).length c') cells' (xs++[x]).length→Recs (R I) n (xs++[x]) cells'→K (.slice a' (xs++[x]).length c') I (X6'++(X1++F))):
  AB T n z 1 [(0,.agg c.toArray)] (gh (AQ (Stay I0 Y) λu=>App T n bytes z v u (gh K))) I L0:=by
 refine CU hz hn (by simpa [Value.cells] using hcl) (λX1 u hX1=>?_);refine AKt hI0 (λy hy=>zam _ (hY y hy)) ?_;refine BQ (X:=X6) hz h6 (hX1.news (λx hx=>zae _ hx)) (λu hu=>h1 u (by simpa [Value.cells] using hu)) hb hl (λX' v' hX'=>?_);obtain ⟨a',c',rfl⟩:=hX'.form;have e:xs.length+1=(xs++[x]).length:=by simp
 rw [e] at hX' ⊢;exact hk X1 X' a' c' _ (by simpa [Value.cells] using hX') (Recs.append hR (Recs.one (by simpa [Value.cells] using hcl) (by simpa [Value.cells] using hx)))
theorem VN [SplitL X6 L0 F]{w:Value}(hz:z.size=1)(h6:SlO T 1 X6 v cells xs.length)(hR:Recs (R I) 1 xs cells)(hx:R I x [w])(h1:w.oneCell'=true)(hb:(xs.length+1) * bytes≤150000000000000)(hl:xs.length+1≤150000000000000)
  (hk:∀X1 X6' v' cells',SlO T 1 X6' v' cells' (xs++[x]).length→Recs (R I) 1 (xs++[x]) cells'→K v' I (X6'++(X1++F))):
  AB T 1 z 1 [(0,w)] (gh λu=>App T 1 bytes z v u (gh K)) I L0:=by
 have hc:w.cells=#[w]:=by cases w <;> first|rfl|simp [Value.oneCell'] at h1
 refine CU hz zo (by rw [hc];rfl) (λX1 u hX1=>?_);rw [hc] at hX1;refine BQ (X:=X6) hz h6 (hX1.news (λx hx=>zae _ hx)) (by simpa using h1) hb hl (λX' v' hX'=>?_);exact hk X1 X' v' _ (by simpa using hX') (Recs.append hR (Recs.one rfl hx))
theorem AHm (hz:z.size=n)(hn:0 < n)(hx:R I x c)(hm:∀{I I':Imm} {x:α} {c:List Value},R I x c→Ext I I'→R I' x c)(hcl:c.length=n)(hk:∀u I',Ext I I'→RL R n I' [] u [x]→K u I' F):AB T n z 1 [(0,.agg c.toArray)] (gh K) I F:=by
 refine Qd hz hn (by simpa [Value.cells] using hcl) (λX u hX=>?_);refine SlO.freeze hX (λI' hI hS=>zAA (hk _ I' hI ?_));exact RL.ofI hS (by simpa [Value.cells] using Recs.one hcl (hm hx hI))
theorem RL.ofO {A:M}{X F:LH}(hm:∀{I I':Imm} {x:α} {c:List Value},R I x c→Ext I I'→R I' x c)(h:SlO T n X v cells xs.length)(hR:Recs (R I) n xs cells)(hk:∀I',Ext I I'→RL R n I' [] v xs→Gh A I' F):Gh A I (X++F):=
 SlO.freeze h (λI' hI hS=>hk I' hI (RL.ofI hS (hR.imp λ_ _ h=>hm h hI)))
end
end Go.SL
namespace Go.Proofs.YthkaekjoemhjaaaGreatDoor
open Go.SL
theorem ALK (k:Nat)(p:Value)(K:Value→M):Lf k p K=Pv (Ah k p) λa=>Rn (BN a) K:=rfl
theorem ALJ (S:M)(k:Nat)(p:Value)(K:Value→M):Lg S k p K=Pv (Ah k p) λa=>Rs S (BN a) K:=rfl
theorem SSd:type_of% (And.intro @ALK <| And.intro @ALJ <| And.intro @AAz<|And.intro @AFU<|And.intro @AEu<|And.intro @AEv<|And.intro @Hl<|And.intro @YJ<|And.intro @APc<|And.intro @AFD<|And.intro @AFF<|And.intro @ADH<|And.intro @YW<|And.intro @YX<|And.intro @AAb<|And.intro @AAc<|And.intro @AKx<|And.intro @AFd<|And.intro @WT<|And.intro @WL<|And.intro @WN<|And.intro @Qg<|And.intro @WM<|And.intro @WO<|And.intro @WP<|And.intro @WQ<|And.intro @WR<|And.intro @WS<|And.intro @AAv<|And.intro @WV<|And.intro @WU<|And.intro @sEq<|And.intro @sNe<|And.intro @sLt<|And.intro @sLe<|And.intro @sGt<|And.intro @sGe<|And.intro @Yc<|And.intro @Yb<|And.intro @Vk<|And.intro @Vj<|And.intro @Ip<|And.intro @Ls<|And.intro @Lu<|And.intro @Lt<|And.intro @Nj<|And.intro @Nh<|And.intro @OY<|And.intro @MF<|And.intro @SS<|And.intro @SV<|And.intro @ABB<|And.intro @ABC<|And.intro @SK<|And.intro (@zay Value)<|And.intro (@zac Value)<|And.intro (@zab Value)<|And.intro @zaS<|And.intro @Nat.add_zero<|And.intro @Nat.zero_mul<|And.intro (@List.drop_succ_cons Value)<|And.intro (@List.drop_zero Value)<|And.intro (@zbx Value)<|And.intro (@List.take_zero Value)<|And.intro (@zaJ Value)<|And.intro (@zau Value)<|And.intro (@List.drop_nil Value)<|And.intro (@List.take_nil Value)<|And.intro @ALH<|And.intro @ALG<|And.intro @ALF<|And.intro @ALE<|And.intro @ALD<|And.intro @ALC<|And.intro @ALB<|And.intro @ALA<|And.intro @AKz<|And.intro @AGn<|And.intro @AGm<|And.intro @AGl<|And.intro @AGk<|And.intro @AGj<|And.intro @AGi<|And.intro @AGh<|And.intro @AGg<|And.intro @AGf<|And.intro @AGe<|And.intro @AGd<|And.intro @AGc<|And.intro @AGb<|And.intro @AGa<|And.intro @AGZ<|And.intro @AGY<|And.intro @AGX<|And.intro @AGW<|And.intro @AGV<|And.intro @AGU<|And.intro @AGT<|And.intro @AGS<|And.intro @AGR<|And.intro @AGQ<|And.intro @AGP<|And.intro @AGO<|And.intro @AGN<|And.intro @AGM<|And.intro @AGL<|And.intro @AGK<|And.intro @AGJ<|And.intro @AGI<|And.intro @AGH<|And.intro @AGG<|And.intro @AGF<|And.intro @AGE<|And.intro @AGD<|And.intro @AGC<|And.intro @AGB<|And.intro @AGA<|And.intro @AFz<|And.intro @AFy<|And.intro @AFx<|And.intro @AFw<|And.intro @AFv<|And.intro @AFu<|And.intro @AFt<|And.intro (@zaJ (Nat×Obj))<|(@zau (Nat×Obj))):=And.intro @ALK <| And.intro @ALJ <| And.intro @AAz<|And.intro @AFU<|And.intro @AEu<|And.intro @AEv<|And.intro @Hl<|And.intro @YJ<|And.intro @APc<|And.intro @AFD<|And.intro @AFF<|And.intro @ADH<|And.intro @YW<|And.intro @YX<|And.intro @AAb<|And.intro @AAc<|And.intro @AKx<|And.intro @AFd<|And.intro @WT<|And.intro @WL<|And.intro @WN<|And.intro @Qg<|And.intro @WM<|And.intro @WO<|And.intro @WP<|And.intro @WQ<|And.intro @WR<|And.intro @WS<|And.intro @AAv<|And.intro @WV<|And.intro @WU<|And.intro @sEq<|And.intro @sNe<|And.intro @sLt<|And.intro @sLe<|And.intro @sGt<|And.intro @sGe<|And.intro @Yc<|And.intro @Yb<|And.intro @Vk<|And.intro @Vj<|And.intro @Ip<|And.intro @Ls<|And.intro @Lu<|And.intro @Lt<|And.intro @Nj<|And.intro @Nh<|And.intro @OY<|And.intro @MF<|And.intro @SS<|And.intro @SV<|And.intro @ABB<|And.intro @ABC<|And.intro @SK<|And.intro (@zay Value)<|And.intro (@zac Value)<|And.intro (@zab Value)<|And.intro @zaS<|And.intro @Nat.add_zero<|And.intro @Nat.zero_mul<|And.intro (@List.drop_succ_cons Value)<|And.intro (@List.drop_zero Value)<|And.intro (@zbx Value)<|And.intro (@List.take_zero Value)<|And.intro (@zaJ Value)<|And.intro (@zau Value)<|And.intro (@List.drop_nil Value)<|And.intro (@List.take_nil Value)<|And.intro @ALH<|And.intro @ALG<|And.intro @ALF<|And.intro @ALE<|And.intro @ALD<|And.intro @ALC<|And.intro @ALB<|And.intro @ALA<|And.intro @AKz<|And.intro @AGn<|And.intro @AGm<|And.intro @AGl<|And.intro @AGk<|And.intro @AGj<|And.intro @AGi<|And.intro @AGh<|And.intro @AGg<|And.intro @AGf<|And.intro @AGe<|And.intro @AGd<|And.intro @AGc<|And.intro @AGb<|And.intro @AGa<|And.intro @AGZ<|And.intro @AGY<|And.intro @AGX<|And.intro @AGW<|And.intro @AGV<|And.intro @AGU<|And.intro @AGT<|And.intro @AGS<|And.intro @AGR<|And.intro @AGQ<|And.intro @AGP<|And.intro @AGO<|And.intro @AGN<|And.intro @AGM<|And.intro @AGL<|And.intro @AGK<|And.intro @AGJ<|And.intro @AGI<|And.intro @AGH<|And.intro @AGG<|And.intro @AGF<|And.intro @AGE<|And.intro @AGD<|And.intro @AGC<|And.intro @AGB<|And.intro @AGA<|And.intro @AFz<|And.intro @AFy<|And.intro @AFx<|And.intro @AFw<|And.intro @AFv<|And.intro @AFu<|And.intro @AFt<|And.intro (@zaJ (Nat×Obj))<|(@zau (Nat×Obj))
theorem SSg:type_of% (And.intro @zad<|And.intro @zan<|And.intro @Bool.and_self<|And.intro @Bool.true_and<|And.intro @decide_true<|And.intro @decide_false<|And.intro @OY<|And.intro @MF<|And.intro @SS<|And.intro @SV<|And.intro @ABB<|@ABC):=And.intro @zad<|And.intro @zan<|And.intro @Bool.and_self<|And.intro @Bool.true_and<|And.intro @decide_true<|And.intro @decide_false<|And.intro @OY<|And.intro @MF<|And.intro @SS<|And.intro @SV<|And.intro @ABB<|@ABC
abbrev Bs:=List UInt8
structure Tok where
 kind:Int
 at':Nat
 text:Bs
 num:Int
deriving DecidableEq
instance:Inhabited Tok:=⟨⟨0,0,[],0⟩⟩
structure Flt where
 code:Int
 at':Int
deriving DecidableEq
def DJ (c:UInt8):Bool:=(97≤c&&c≤122)||(65≤c&&c≤90)||c==95
def Bi (c:UInt8):Bool:=48≤c&&c≤57
def Rq (c:UInt8):Bool:=c==9||c==10||c==12||c==13||c==32
def Ej (c:UInt8):UInt8:=if 65≤c&&c≤90 then c+32 else c
def wordsL:List Bs:=[[97,110,100],[97,115],[97,115,99],[98,101,103,105,110],[98,101,116,119,101,101,110],[98,121],[99,97,115,101],[99,111,109,109,105,116],[99,114,101,97,116,101],[99,114,111,115,115],[100,101,102,97,117,108,116],[100,101,108,101,116,101],[100,101,115,99],[100,105,115,116,105,110,99,116],[100,114,111,112],[101,108,115,101],[101,110,100],[102,97,108,115,101],[102,114,111,109],[103,114,111,117,112],[104,97,118,105,110,103],[105,110],[105,110,100,101,120],[105,110,110,101,114],[105,110,115,101,114,116],[105,110,116,111],[105,115],[106,111,105,110],[107,101,121],[108,101,102,116],[108,105,107,101],[108,105,109,105,116],[110,111,116],[110,117,108,108],[111,102,102,115,101,116],[111,110],[111,114],[111,114,100,101,114],[112,114,105,109,97,114,121],[114,111,108,108,98,97,99,107],[115,101,108,101,99,116],[115,101,116],[116,97,98,108,101],[116,104,101,110],[116,114,117,101],[117,110,105,113,117,101],[117,112,100,97,116,101],[118,97,108,117,101,115],[119,104,101,110],[119,104,101,114,101]]
def signsL:List Bs:=[[60,61],[62,61],[60,62],[33,61],[124,124],[40],[41],[44],[46],[59],[42],[43],[45],[47],[37],[61],[60],[62]]
def CY:Bool→Bs→Bs
 |_,[]=>[]
 |true,c::r=>if c==10 then CY false r else CY true r
 |false,c::r=>if Rq c then CY false r else if c==45&&r.head? ==some 45 then CY true r else c::r
def Eg (q:UInt8):Bs→Option (Bs×Bs)
 |[]=>none
 |c::r=>if c==0 then none else if c != q then (Eg q r).map λx=>(c::x.1,x.2) else match r with
  |[]=>some ([],[])
  |d::r'=>if d==q then (Eg q r').map λx=>(q::x.1,x.2) else some ([],d::r')
def Pz:Bs→Int→Option Int
 |[],n=>some n
 |d::r,n=>if n > (9223372036854775807 - ((d.toNat:Int) - 48)) / 10 then none else Pz r (10 * n+((d.toNat:Int) - 48))
def Oz (s:Bs):Option Bs:=signsL.find? λx=>x.isPrefixOf s
inductive LexR where
 |tok (t:Tok) (r:Bs)
 |bad (e:Int)
def NK (w:Bs)(at':Nat)(r:Bs):LexR:=if 63 < w.length then .bad 173 else .tok ⟨if wordsL.contains w then 2 else 1,at',w,0⟩ r
def Hy (at':Nat):Bs→LexR
 |[]=>.bad 171
 |c::r=>
  if DJ c then NK (((c::r).takeWhile λc=>DJ c||Bi c).map Ej) at' ((c::r).dropWhile λc=>DJ c||Bi c) else
  if Bi c then (match Pz ((c::r).takeWhile Bi) 0 with
   |none=>.bad 172
   |some k=>if ((c::r).dropWhile Bi).head?.any DJ then .bad 172 else .tok ⟨3,at',[],k⟩ ((c::r).dropWhile Bi)) else
  if c==34||c==39 then (match Eg c r with
   |none=>.bad 173
   |some (s,r')=>if c==34 then (if s.isEmpty||decide (63 < s.length) then .bad 173 else .tok ⟨1,at',s,0⟩ r') else .tok ⟨4,at',s,0⟩ r') else
  match Oz (c::r) with
  |none=>.bad 171
  |some s=>.tok ⟨5,at',if s=[33,61] then [60,62] else s,0⟩ ((c::r).drop s.length)
inductive LexA where
 |toks (l:List Tok)
 |bad (f:Flt)
def Gu (n:Nat):Nat→List Tok→Bs→LexA
 |0,acc,_=>.toks acc
 |m+1,acc,s=>match CY false s with
  |[]=>.toks (acc++[⟨6,n,[],0⟩])
  |c::r=>match Hy (n - (r.length+1)) (c::r) with
   | .bad e=>.bad ⟨e,(n - (r.length+1):Nat)⟩
   | .tok t r'=>Gu n m (acc++[t]) r'
def AFK (s:Bs):LexA:=Gu s.length (s.length+1) [] s
structure TValue where
 fType:Int
 fNull:Bool
 fInt:Int
 fText:Bs
deriving DecidableEq
inductive Ex where
 |mk (kind:Int) (value:TValue) (table name:Bs) (slot type:Int) (distinct:Bool) (args:List Ex)
def Ex.kind:Ex→Int| .mk k _ _ _ _ _ _ _=>k
def Ex.value:Ex→TValue| .mk _ v _ _ _ _ _ _=>v
def Ex.table:Ex→Bs| .mk _ _ t _ _ _ _ _=>t
def Ex.name:Ex→Bs| .mk _ _ _ n _ _ _ _=>n
def Ex.slot:Ex→Int| .mk _ _ _ _ s _ _ _=>s
def Ex.type:Ex→Int| .mk _ _ _ _ _ t _ _=>t
def Ex.distinct:Ex→Bool| .mk _ _ _ _ _ _ d _=>d
def Ex.args:Ex→List Ex| .mk _ _ _ _ _ _ _ l=>l
def v0:TValue:=⟨0,false,0,[]⟩
def ex0:Ex:=.mk 0 v0 [] [] 0 0 false []
instance:Inhabited Ex:=⟨ex0⟩
instance:Inhabited TValue:=⟨v0⟩
def exK (k:Int)(l:List Ex):Ex:=.mk k v0 [] [] 0 0 false l
def Ld (v:TValue):Ex:=.mk 1 v [] [] 0 0 false []
def Rz (t n:Bs):Ex:=.mk 2 v0 t n 0 0 false []
def Jz (n:Bs)(d:Bool)(l:List Ex):Ex:=.mk 28 v0 [] n 0 0 d l
structure TItem where
 fStar:Bool
 fTable:Bs
 fExpr:Ex
 fAs:Bs
instance:Inhabited TItem:=⟨⟨false,[],ex0,[]⟩⟩
structure TSource where
 fTable:Bs
 fAs:Bs
 fLeft:Bool
 fOn:Ex
instance:Inhabited TSource:=⟨⟨[],[],false,ex0⟩⟩
structure TOrder where
 fExpr:Ex
 fDesc:Bool
instance:Inhabited TOrder:=⟨⟨ex0,false⟩⟩
structure TSelect where
 fDistinct:Bool
 fItems:List TItem
 fFrom:List TSource
 fWhere:Ex
 fGroup:List Ex
 fHaving:Ex
 fOrder:List TOrder
 fLimit:Int
 fOffset:Int
instance:Inhabited TSelect:=⟨⟨false,[],[],ex0,[],ex0,[],0,0⟩⟩
structure TSet where
 fColumn:Bs
 fExpr:Ex
instance:Inhabited TSet:=⟨⟨[],ex0⟩⟩
structure TCol where
 fName:Bs
 fType:Int
 fNotNull:Bool
 fKey:Bool
 fUnique:Bool
 fDefault:Ex
instance:Inhabited TCol:=⟨⟨[],0,false,false,false,ex0⟩⟩
structure TIdx where
 fName:Bs
 fTable:Bs
 fColumns:List Bs
 fUnique:Bool
instance:Inhabited TIdx:=⟨⟨[],[],[],false⟩⟩
structure TStmt where
 fKind:Int
 fSelect:TSelect
 fTable:Bs
 fColumns:List Bs
 fRows:List (List Ex)
 fSets:List TSet
 fWhere:Ex
 fCols:List TCol
 fKey:List Bs
 fIndex:TIdx
instance:Inhabited TStmt:=⟨⟨0,default,[],[],[],[],ex0,[],[],default⟩⟩
inductive Res (α:Type) where
 |ok (x:α) (r:List Tok)
 |err (at':Nat)
abbrev Pr (α:Type):=List Tok→Res α
def Res.bind {α β:Type}(x:Res α)(f:α→Pr β):Res β:=match x with
 | .ok a r=>f a r
 | .err e=>.err e
def hd (l:List Tok):Tok:=l.headD default
def bad {α:Type}(l:List Tok):Res α:=.err (hd l).at'
def isT (l:List Tok)(s:Bs):Bool:=((hd l).kind==2||(hd l).kind==5)&&(hd l).text==s
def isK (l:List Tok)(k:Int):Bool:=(hd l).kind==k
def AC (s:Bs):Pr Unit:=λl=>if isT l s then .ok () l.tail else bad l
def Aq:Pr Bs:=λl=>if isK l 1 then .ok (hd l).text l.tail else bad l
def Cj {α:Type}(one:Pr α):Nat→List α→Pr (List α)
 |0,acc,l=>.ok acc l
 |n+1,acc,l=>if isT l [44] then (one l.tail).bind λx r=>Cj one n (acc++[x]) r else .ok acc l
def BO {α:Type}(n:Nat)(one:Pr α):Pr (List α):=λl=>(one l).bind λx r=>Cj one n [x] r
def CE {α:Type}(n:Nat)(one:Pr α):Pr (List α):=λl=>(AC [40] l).bind λ_ r=>(BO n one r).bind λx r=>(AC [41] r).bind λ_ r=>.ok x r
def Fg (one:Pr Ex)(op:List Tok→Int):Nat→Ex→Pr Ex
 |0,x,l=>.ok x l
 |n+1,x,l=>if op l=0 then .ok x l else (one l.tail).bind λy r=>Fg one op n (exK (op l) [x,y]) r
def DI (n:Nat)(one:Pr Ex)(op:List Tok→Int):Pr Ex:=λl=>(one l).bind λx r=>Fg one op n x r
def UC (l:List Tok):Int:=if isT l [111,114] then 22 else 0
def LV (l:List Tok):Int:=if isT l [97,110,100] then 21 else 0
def KI (f:Bs→Option Int)(l:List Tok):Int:=if isK l 5 then (f (hd l).text).getD 0 else 0
def XJ (s:Bs):Option Int:=if s=[43] then some 9 else if s=[45] then some 10 else if s=[124,124] then some 14 else none
def Oq (s:Bs):Option Int:=if s=[42] then some 11 else if s=[47] then some 12 else if s=[37] then some 13 else none
def AKq:List Tok→Int:=KI XJ
def AEm:List Tok→Int:=KI Oq
def Gx (l:List Tok):Int:=if isT l [61] then 15 else if isT l [60,62] then 16 else if isT l [60] then 17 else if isT l [60,61] then 18 else if isT l [62] then 19 else if isT l [62,61] then 20 else 0
def LX (l:List Tok):Option TValue:=
 if isK l 4 then some ⟨3,false,0,(hd l).text⟩ else if isT l [116,114,117,101] then some ⟨2,false,1,[]⟩ else if isT l [102,97,108,115,101] then some ⟨2,false,0,[]⟩ else if isT l [110,117,108,108] then some ⟨4,true,0,[]⟩ else none
def Ns:Pr Ex:=λl=>if isK l 3 then .ok (Ld ⟨1,false,(hd l).num,[]⟩) l.tail else bad l
def Gg:Pr Ex:=λl=>match LX l with
 |some v=>.ok (Ld v) l.tail
 |none=>if isT l [45] then (Ns l.tail).bind λx r=>.ok (exK 4 [x]) r else Ns l
def Ed (n:Nat)(E:Pr Ex)(acc:List Ex):Pr (List Ex):=λl=>(AC [119,104,101,110] l).bind λ_ r=>(E r).bind λa r=>(AC [116,104,101,110] r).bind λ_ r=>(E r).bind λb r=>.ok (acc++[a,b]) r
def FH (n:Nat)(E:Pr Ex):Nat→List Ex→Pr (List Ex)
 |0,acc,l=>.ok acc l
 |m+1,acc,l=>if isT l [119,104,101,110] then (Ed n E acc l).bind λa r=>FH n E m a r else .ok acc l
def Iy (n:Nat)(E:Pr Ex):Pr Ex:=λl=>(Ed n E [] l).bind λa r=>(FH n E n a r).bind λa r=>
 (if isT r [101,108,115,101] then (E r.tail).bind λx r=>.ok (a++[x]) r else Res.ok a r).bind λa r=>(AC [101,110,100] r).bind λ_ r=>.ok (exK 26 a) r
def isAgg (s:Bs):Bool:=s==[99,111,117,110,116]||s==[115,117,109]||s==[109,105,110]||s==[109,97,120]||s==[97,118,103]
def Em (s:Bs):Bool:=s==[99,111,97,108,101,115,99,101]||s==[108,101,110,103,116,104]||isAgg s
def Dx (n:Nat)(E:Pr Ex)(s:Bs):Pr Ex:=λl=>
 if s=[99,111,97,108,101,115,99,101] then (CE n E l).bind λa r=>.ok (exK 27 a) r else
 (AC [40] l).bind λ_ r=>
 if s=[108,101,110,103,116,104] then (E r).bind λx r=>(AC [41] r).bind λ_ r=>.ok (exK 8 [x]) r else
 if (s==[99,111,117,110,116]&&isT r [42])=true then (AC [41] r.tail).bind λ_ r=>.ok (Jz s false [exK 3 []]) r else
 (E (if isT r [100,105,115,116,105,110,99,116] then r.tail else r)).bind λx r'=>(AC [41] r').bind λ_ r'=>.ok (Jz s (isT r [100,105,115,116,105,110,99,116]) [x]) r'
def GM (n:Nat)(E U:Pr Ex):Pr Ex:=λl=>
 if isT l [45] then (U l.tail).bind λx r=>.ok (exK 4 [x]) r else
 if isT l [40] then (E l.tail).bind λx r=>(AC [41] r).bind λ_ r=>.ok x r else
 if isT l [99,97,115,101] then Iy n E l.tail else
 if isK l 3 then Ns l else
 match LX l with
 |some v=>.ok (Ld v) l.tail
 |none=>(Aq l).bind λs r=>
  if isT r [40]&&Em s then Dx n E s r else
  if isT r [46] then (Aq r.tail).bind λc r=>.ok (Rz s c) r else .ok (Rz [] s) r
def VU (b:Bool)(x:Ex):Ex:=if b then exK 5 [x] else x
def JH (n:Nat)(E S:Pr Ex):Pr Ex:=λl=>(S l).bind λx r=>
 if Gx r≠0 then (S r.tail).bind λy r'=>.ok (exK (Gx r) [x,y]) r' else
 if isT r [105,115] then (if isT r.tail [110,111,116] then (AC [110,117,108,108] r.tail.tail).bind λ_ r=>.ok (exK 7 [x]) r else (AC [110,117,108,108] r.tail).bind λ_ r=>.ok (exK 6 [x]) r) else
 let b:=isT r [110,111,116]
 let q:=if b then r.tail else r
 if isT q [105,110] then (CE n E q.tail).bind λa r=>.ok (VU b (exK 24 (x::a))) r else
 if isT q [98,101,116,119,101,101,110] then (S q.tail).bind λy r=>(AC [97,110,100] r).bind λ_ r=>(S r).bind λz r=>.ok (VU b (exK 25 [x,y,z])) r else
 if isT q [108,105,107,101] then (S q.tail).bind λy r=>.ok (VU b (exK 23 [x,y])) r else
 if b then bad q else .ok x q
def Qn (N Q:Pr Ex):Pr Ex:=λl=>if isT l [110,111,116] then (N l.tail).bind λx r=>.ok (exK 5 [x]) r else Q l
def IC:Nat→Pr Ex×Pr Ex×Pr Ex
 |0=>(λ_=>.err 0,λ_=>.err 0,λ_=>.err 0)
 |n+1=>
  let U:=GM n (IC n).1 (IC n).2.2
  let S:=DI n (DI n U AEm) AKq
  let N:=Qn (IC n).2.1 (JH n (IC n).1 S)
  (DI n (DI n N LV) UC,N,U)
def eP (n:Nat):Pr Ex:=(IC n).1
def nP (n:Nat):Pr Ex:=(IC n).2.1
def uP (n:Nat):Pr Ex:=(IC n).2.2
def EK (n:Nat)(s:Bs):Pr Ex:=λl=>if isT l s then eP n l.tail else .ok ex0 l
def Gy (n:Nat):Pr TItem:=λl=>
 if isT l [42] then .ok ⟨true,[],ex0,[]⟩ l.tail else
 if isK l 1&&isK l.tail 5&&(hd l.tail).text==[46]&&isK l.tail.tail 5&&(hd l.tail.tail).text==[42] then .ok ⟨true,(hd l).text,ex0,[]⟩ l.tail.tail.tail else
 (eP n l).bind λx r=>if isT r [97,115] then (Aq r.tail).bind λa r=>.ok ⟨false,[],x,a⟩ r else .ok ⟨false,[],x,[]⟩ r
def Hf (n:Nat):Pr TOrder:=λl=>(eP n l).bind λx r=>if isT r [100,101,115,99] then .ok ⟨x,true⟩ r.tail else if isT r [97,115,99] then .ok ⟨x,false⟩ r.tail else .ok ⟨x,false⟩ r
def DC:Pr TSource:=λl=>(Aq l).bind λs r=>if isT r [97,115] then (Aq r.tail).bind λa r=>.ok ⟨s,a,false,ex0⟩ r else if isK r 1 then (Aq r).bind λa r=>.ok ⟨s,a,false,ex0⟩ r else .ok ⟨s,[],false,ex0⟩ r
def GY (n:Nat)(b:Bool):Pr TSource:=λl=>(AC [106,111,105,110] l).bind λ_ r=>(DC r).bind λs r=>(AC [111,110] r).bind λ_ r=>(eP n r).bind λx r=>.ok ⟨s.fTable,s.fAs,b,x⟩ r
def DU (n:Nat):Nat→List TSource→Pr (List TSource)
 |0,acc,l=>.ok acc l
 |m+1,acc,l=>
  if isT l [44] then (DC l.tail).bind λs r=>DU n m (acc++[s]) r else
  if isT l [99,114,111,115,115] then (AC [106,111,105,110] l.tail).bind λ_ r=>(DC r).bind λs r=>DU n m (acc++[s]) r else
  if isT l [108,101,102,116] then (GY n true l.tail).bind λs r=>DU n m (acc++[s]) r else
  if isT l [105,110,110,101,114] then (GY n false l.tail).bind λs r=>DU n m (acc++[s]) r else
  if isT l [106,111,105,110] then (GY n false l).bind λs r=>DU n m (acc++[s]) r else .ok acc l
def Jy (n:Nat):Pr (List TSource):=λl=>(DC l).bind λs r=>DU n n [s] r
def FN:Pr Int:=λl=>if isK l 3&&decide ((hd l).num≤2147483647) then .ok (hd l).num l.tail else bad l
def Po {α:Type}(s:Bs)(d:α)(p:Pr α):Pr α:=λl=>if isT l s then p l.tail else .ok d l
def byP {α:Type}(p:Pr α):Pr α:=λl=>(AC [98,121] l).bind λ_ r=>p r
def Ha (n:Nat):Pr TSelect:=λl=>
 let d:=isT l [100,105,115,116,105,110,99,116]
 (BO n (Gy n) (if d then l.tail else l)).bind λitems r=>
 (Po [102,114,111,109] [] (Jy n) r).bind λfroms r=>
 (EK n [119,104,101,114,101] r).bind λwh r=>
 (Po [103,114,111,117,112] [] (byP (BO n (eP n))) r).bind λgr r=>
 (EK n [104,97,118,105,110,103] r).bind λha r=>
 (Po [111,114,100,101,114] [] (byP (BO n (Hf n))) r).bind λod r=>
 (Po [108,105,109,105,116] (-1) FN r).bind λli r=>
 (Po [111,102,102,115,101,116] 0 FN r).bind λoff r=>.ok ⟨d,items,froms,wh,gr,ha,od,li,off⟩ r
def Tj (n:Nat):Pr TSet:=λl=>(Aq l).bind λs r=>(AC [61] r).bind λ_ r=>(eP n r).bind λx r=>.ok ⟨s,x⟩ r
def typeOf (s:Bs):Int:=if s=[105,110,116]∨s=[105,110,116,101,103,101,114]∨s=[98,105,103,105,110,116] then 1 else if s=[98,111,111,108]∨s=[98,111,111,108,101,97,110] then 2 else if s=[116,101,120,116] then 3 else 0
def Ff:Nat→TCol→Pr TCol
 |0,c,l=>.ok c l
 |n+1,c,l=>
  if !c.fNotNull&&isT l [110,111,116] then (AC [110,117,108,108] l.tail).bind λ_ r=>Ff n {c with fNotNull:=true} r else
  if !c.fKey&&isT l [112,114,105,109,97,114,121] then (AC [107,101,121] l.tail).bind λ_ r=>Ff n {c with fKey:=true} r else
  if !c.fUnique&&isT l [117,110,105,113,117,101] then Ff n {c with fUnique:=true} l.tail else
  if c.fDefault.kind==0&&isT l [100,101,102,97,117,108,116] then (Gg l.tail).bind λx r=>Ff n {c with fDefault:=x} r else .ok c l
def Es (n:Nat):Pr TCol:=λl=>(Aq l).bind λs r=>
 let t:=if isK r 1 then typeOf (hd r).text else 0
 if t=0 then bad r else Ff n ⟨s,t,false,false,false,ex0⟩ r.tail
def FV (n:Nat):Nat→List TCol→List Bs→Pr (List TCol×List Bs)
 |0,cs,ks,l=>.ok (cs,ks) l
 |m+1,cs,ks,l=>
  (if ks.isEmpty&&isT l [112,114,105,109,97,114,121] then (AC [107,101,121] l.tail).bind λ_ r=>(CE n Aq r).bind λk r=>.ok (cs,k) r else (Es n l).bind λc r=>Res.ok (cs++[c],ks) r).bind λx r=>
  if isT r [44] then FV n m x.1 x.2 r.tail else .ok x r
def MK (n:Nat):Pr TStmt:=λl=>(Aq l).bind λs r=>(AC [40] r).bind λ_ r=>(FV n (n+1) [] [] r).bind λx r=>
 if x.1.isEmpty then bad r else (AC [41] r).bind λ_ r=>.ok {(default:TStmt) with fKind:=5,fTable:=s,fCols:=x.1,fKey:=x.2} r
def FQ (n:Nat):Pr TStmt:=λl=>if isT l [116,97,98,108,101] then MK n l.tail else
 let u:=isT l [117,110,105,113,117,101]
 (AC [105,110,100,101,120] (if u then l.tail else l)).bind λ_ r=>(Aq r).bind λa r=>(AC [111,110] r).bind λ_ r=>(Aq r).bind λt r=>(CE n Aq r).bind λc r=>
 .ok {(default:TStmt) with fKind:=6,fIndex:=⟨a,t,c,u⟩} r
def Gi:Pr TStmt:=λl=>if isT l [116,97,98,108,101] then (Aq l.tail).bind λs r=>.ok {(default:TStmt) with fKind:=7,fTable:=s} r else
 (AC [105,110,100,101,120] l).bind λ_ r=>(Aq r).bind λs r=>.ok {(default:TStmt) with fKind:=8,fIndex:=⟨s,[],[],false⟩} r
def Dn (n:Nat):Pr TStmt:=λl=>(AC [105,110,116,111] l).bind λ_ r=>(Aq r).bind λs r=>
 (if isT r [40] then CE n Aq r else Res.ok [] r).bind λc r=>(AC [118,97,108,117,101,115] r).bind λ_ r=>(BO n (CE n (eP n)) r).bind λx r=>.ok {(default:TStmt) with fKind:=2,fTable:=s,fColumns:=c,fRows:=x} r
def Dl (n:Nat):Pr TStmt:=λl=>(Aq l).bind λs r=>(AC [115,101,116] r).bind λ_ r=>(BO n (Tj n) r).bind λx r=>(EK n [119,104,101,114,101] r).bind λw r=>.ok {(default:TStmt) with fKind:=3,fTable:=s,fSets:=x,fWhere:=w} r
def Dp (n:Nat):Pr TStmt:=λl=>(AC [102,114,111,109] l).bind λ_ r=>(Aq r).bind λs r=>(EK n [119,104,101,114,101] r).bind λw r=>.ok {(default:TStmt) with fKind:=4,fTable:=s,fWhere:=w} r
def EF (n:Nat):Pr TStmt:=λl=>
 if isT l [115,101,108,101,99,116] then (Ha n l.tail).bind λq r=>.ok {(default:TStmt) with fKind:=1,fSelect:=q} r else
 if isT l [105,110,115,101,114,116] then Dn n l.tail else
 if isT l [117,112,100,97,116,101] then Dl n l.tail else
 if isT l [100,101,108,101,116,101] then Dp n l.tail else
 if isT l [99,114,101,97,116,101] then FQ n l.tail else
 if isT l [100,114,111,112] then Gi l.tail else
 if isT l [98,101,103,105,110] then .ok {(default:TStmt) with fKind:=9} l.tail else
 if isT l [99,111,109,109,105,116] then .ok {(default:TStmt) with fKind:=10} l.tail else
 (AC [114,111,108,108,98,97,99,107] l).bind λ_ r=>.ok {(default:TStmt) with fKind:=11} r
def CV (n:Nat):Nat→List TStmt→Pr (List TStmt)
 |0,acc,l=>.ok acc l
 |m+1,acc,l=>if isK l 6 then .ok acc l else if isT l [59] then CV n m acc l.tail else
  (EF n l).bind λs r=>if isK r 6||isT r [59] then CV n m (acc++[s]) r else bad r
mutual
def Aj:Ex→Nat
 | .mk _ _ _ _ _ _ _ l=>Ad l+1
def Ad:List Ex→Nat
 |[]=>0
 |x::l=>Aj x+Ad l
end
mutual
def Gj:Ex→Nat
 | .mk _ _ _ _ _ _ _ l=>Bq l+1
def Bq:List Ex→Nat
 |[]=>0
 |x::l=>max (Gj x) (Bq l)
end
def FZ (s:TStmt):List Ex:=
 (s.fSelect.fItems.map (·.fExpr)++s.fSelect.fFrom.map (·.fOn)++[s.fSelect.fWhere,s.fSelect.fHaving,s.fWhere]++s.fSelect.fGroup++s.fSelect.fOrder.map (·.fExpr)++s.fRows.flatten++s.fSets.map (·.fExpr)++s.fCols.map (·.fDefault)).filter λx=>x.kind != 0
def KH (s:TStmt):Nat:=Ad (FZ s)+1
def AFb (s:TStmt):Nat:=Bq (FZ s)
def BG (l:List TStmt):Nat:=(l.map KH).sum
def EH:List TStmt→Nat
 |[]=>0
 |s::l=>max (AFb s) (EH l)
def ok0:Flt:=⟨0,0⟩
def readA (s:Bs):List TStmt×Flt:=match AFK s with
 | .bad f=>([],f)
 | .toks l=>match CV l.length (l.length+1) [] l with
  | .ok x _=>(x,ok0)
  | .err a=>([],⟨174,a⟩)
def UJ (parts deep:Nat):Int:=if 64 < deep then 175 else if 2000 < parts then 176 else 0
def Ce (s:Bs):List TStmt×Flt:=
 if 65536 < s.length then ([],⟨170,65536⟩) else
 if (readA s).2≠ok0 then ([],(readA s).2) else
 if UJ (BG (readA s).1) (EH (readA s).1)≠0 then ([],⟨UJ (BG (readA s).1) (EH (readA s).1),0⟩) else ((readA s).1,ok0)
structure TField where
 fName:Bs
 fType:Int
deriving DecidableEq
structure TCell where
 fNull:Bool
 fText:Bs
deriving DecidableEq
structure TBack where
 fKind:Int:=0
 fName:Bs:=[]
 fText:Bs:=[]
 fPid:Int:=0
 fSecret:Int:=0
 fStatus:Int:=0
 fFields:List TField:=[]
 fCells:List TCell:=[]
 fState:Bs:=[]
 fFatal:Bool:=false
structure TParam where
 fName:Bs
 fValue:Bs
structure TFront where
 fKind:Int:=0
 fParams:List TParam:=[]
 fText:Bs:=[]
 fPid:Int:=0
 fSecret:Int:=0
 fTag:Int:=0
structure TOut where
 fFields:List TField
 fRows:List (List TValue)
 fTag:Bs
instance:Inhabited TField:=⟨⟨[],0⟩⟩
instance:Inhabited TCell:=⟨⟨false,[]⟩⟩
instance:Inhabited TBack:=⟨{}⟩
instance:Inhabited TParam:=⟨⟨[],[]⟩⟩
instance:Inhabited TFront:=⟨{}⟩
instance:Inhabited TOut:=⟨⟨[],[],[]⟩⟩
def byI (n:Int):UInt8:=UInt8.ofNat (n % 256).toNat
def beB (n:Int):Nat→Bs
 |0=>[]
 |k+1=>byI (n.fdiv (2 ^ (8 * k)))::beB n k
def txB (l:List Bs):Bs:=l.flatMap (·++[0])
def clB (l:List Bs):Bool:=l.all λs=>s.all (· != 0)
def i32 (n:Int):Int:=IntKind.i32.wrap n
def smB (l:List Int):Bool:=l.all λn=>n==i32 n
def Vt (t:Int):Option (Int×Int):=if t==1 then some (20,8) else if t==2 then some (16,1) else if t==3 then some (25, -1) else none
def Xv (f:TField)(c:Int×Int):Bs:=txB [f.fName]++beB 0 4++beB 0 2++beB c.1 4++beB c.2 2++beB (-1) 4++beB 0 2
def DW:List TField→Option Bs
 |[]=>some []
 |f::r=>match Vt f.fType with
  |none=>none
  |some c=>if clB [f.fName] then (DW r).map (Xv f c++·) else none
def En (l:List TField):Bs×Bool:=match DW l with
 |some t=>(beB l.length 2++t,decide (l.length≤1600))
 |none=>([],false)
def FC (c:TCell):Bs:=if c.fNull then beB (-1) 4 else beB c.fText.length 4++c.fText
def Bc (l:List TCell):Nat:=(l.map λc=>4+c.fText.length).sum+2
def EX (l:List TCell):Bs×Int×Bool:=
 if l.any λc=>c.fNull&&c.fText != [] then ([],0,false)
 else if 1073741824 < Bc l+4∨1600 < l.length then ([],Bc l,decide (l.length≤1600))
 else (beB l.length 2++l.flatMap FC,Bc l,true)
def AHM (c:UInt8):Bool:=(48≤c&&c≤57)||(65≤c&&c≤90)
def Ku (s:Bs):Bool:=s.length==5&&s.all AHM
def DN (m:TBack):TBack×Bs×Int×Bool:=
 if m.fKind==1 then ({fKind:=1},beB 0 4,0,true)
 else if m.fKind==3 then ({fKind:=3,fPid:=m.fPid,fSecret:=m.fSecret},beB m.fPid 4++beB m.fSecret 4,0,smB [m.fPid,m.fSecret])
 else if m.fKind==4 then ({fKind:=4,fStatus:=m.fStatus},[byI m.fStatus],0,m.fStatus==73||m.fStatus==84||m.fStatus==69)
 else if m.fKind==5 then ({fKind:=5,fFields:=m.fFields},(En m.fFields).1,0,(En m.fFields).2)
 else if m.fKind==6 then ({fKind:=6,fCells:=m.fCells},(EX m.fCells).1,(EX m.fCells).2.1,(EX m.fCells).2.2)
 else if m.fKind==2 then ({fKind:=2,fName:=m.fName,fText:=m.fText},txB [m.fName]++txB [m.fText],0,clB [m.fName,m.fText])
 else if m.fKind==7 then ({fKind:=7,fText:=m.fText},txB [m.fText],0,clB [m.fName,m.fText])
 else if m.fKind==9 then ({fKind:=9,fState:=m.fState,fText:=m.fText,fFatal:=m.fFatal},
  txB [83::(if m.fFatal then [70,65,84,65,76] else [69,82,82,79,82]),86::(if m.fFatal then [70,65,84,65,76] else [69,82,82,79,82]),67::m.fState,77::m.fText]++[0],0,Ku m.fState&&clB [m.fText])
 else if m.fKind==8∨m.fKind==10 then ({fKind:=m.fKind},[],0,true)
 else ({fKind:=m.fKind},[],0,false)
def RN (a b:TBack):Bool:=a.fKind==b.fKind&&a.fName==b.fName&&a.fText==b.fText&&a.fPid==b.fPid&&a.fSecret==b.fSecret&&a.fStatus==b.fStatus&&a.fState==b.fState&&a.fFatal==b.fFatal&&a.fFields.length==b.fFields.length&&a.fCells.length==b.fCells.length
def tagsW:Bs:=[32,82,83,75,90,84,68,67,73,69]
def GU (m:TBack):Bs×Int:=
 let t:=DN m
 if !t.2.2.2|| !RN t.1 m then ([],230)
 else if m.fKind==10 then ([78],0)
 else if 1073741824 < max t.2.2.1 t.2.1.length+4 then ([],231)
 else (tagsW.getD m.fKind.toNat 0::beB (t.2.1.length+4:Nat) 4++t.2.1,0)
def EO:List TBack→Bs→Bs×Int
 |[],acc=>(acc,0)
 |m::r,acc=>if (GU m).2 != 0 then ([],(GU m).2) else EO r (acc++(GU m).1)
def n4W (a b c d:UInt8):Int:=i32 ((ES .or .u32 (ES .or .u32 (ES .or .u32 (IntKind.u32.wrap (a.toNat * 16777216)) (IntKind.u32.wrap (b.toNat * 65536))) (IntKind.u32.wrap (c.toNat * 256))) d.toNat))
structure Rdq where
 b:Bs
 bad:Bool
def Rdq.take (n:Int)(r:Rdq):Bs×Rdq:=if n < 0∨(r.b.length:Int) < n then ([],⟨r.b,true⟩) else (r.b.take n.toNat,⟨r.b.drop n.toNat,r.bad⟩)
def ix0 (l:Bs):Int:=match l.findIdx? (·==0) with
 |some i=>(i:Nat)
 |none=> -1
def Rdq.text (r:Rdq):Bs×Rdq:=
 let q:=r.take (ix0 r.b)
 if q.2.bad then q else (q.1,(q.2.take 1).2)
def ALf (c:UInt8):Int:=IntKind.i8.wrap c.toNat
def AHw:Int→Bs→Int
 |n,[]=>n
 |n,c::r=>AHw (ES .or .i64 (IntKind.i64.wrap (n * 256)) c.toNat) r
def AHx:Bs→Int
 |[]=>0
 |c::r=>AHw (ALf c) r
def Rdq.num (k:Int)(r:Rdq):Int×Rdq:=(AHx (r.take k).1,(r.take k).2)
def Rdq.whole (r:Rdq):Bool:= !r.bad&&r.b.isEmpty
def Cf:Nat→Rdq→List TParam→Option (List TParam×Rdq)
 |0,r,acc=>some (acc,r)
 |f+1,r,acc=>if r.b.length > 0&&(r.b.headD 0 != 0&& !r.bad) then (if acc.length==32 then none else
   Cf f (r.text.2.text.2) (acc++[⟨r.text.1,r.text.2.text.1⟩])) else some (acc,r)
def Pq (b:Bs):TFront×Int:=
 let q:=(Rdq.mk b false).num 4
 let fin (f:TFront) (r:Rdq):TFront×Int:=if r.whole then (f,0) else ({},230)
 if q.1==80877103 then fin {fKind:=2} q.2
 else if q.1==80877102 then fin {fKind:=3,fPid:=(q.2.num 4).1,fSecret:=((q.2.num 4).2.num 4).1} ((q.2.num 4).2.num 4).2
 else if q.1==196608 then (match Cf (b.length+1) q.2 [] with
  |none=>({},231)
  |some (l,r)=>fin {fKind:=1,fParams:=l} (r.take 1).2)
 else ({},232)
def UH (tag:Int)(b:Bs):TFront×Int:=
 let r:Rdq:=⟨b,false⟩
 let fin (f:TFront) (r:Rdq):TFront×Int:=if r.whole then (f,0) else ({},230)
 if tag==81 then fin {fKind:=4,fText:=r.text.1} r.text.2
 else if tag==88 then fin {fKind:=5} r
 else fin {fKind:=6,fTag:=tag} ⟨[],r.bad⟩
def DX (b:Bs)(head:Nat)(least most:Int):Int×Int:=
 if b.length < head+4 then (0,10) else
 let n:=n4W (b.getD head 0) (b.getD (head+1) 0) (b.getD (head+2) 0) (b.getD (head+3) 0)
 if n < least then (0,230) else if most < n then (0,231) else if (b.length:Int) - head < n then (0,10) else (n,0)
def Ap (b:Bs)(startup:Bool):TFront×Int×Int:=
 let head:=if startup then 0 else 1
 if !startup&&(b.length > 0&&(b.headD 0==0||decide (127 < b.headD 0))) then ({},0,230) else
 let q:=DX b head (if startup then 8 else 4) (if startup then 10000 else 1048576)
 if q.2 != 0 then ({},0,q.2) else
 let body:=(b.drop (head+4)).take (q.1.toNat - 4)
 let o:=if startup then Pq body else UH (b.headD 0).toNat body
 if o.2 != 0 then ({},0,o.2) else (o.1,head+q.1,0)
def Ey (e:Int):Bs×Bs:=
 if e=170∨e=175∨e=176 then ([53,52,48,48,49],[115,116,97,116,101,109,101,110,116,32,105,115,32,116,111,111,32,108,97,114,103,101])
 else if e=171∨e=172∨e=173∨e=174∨e=177∨e=284 then ([52,50,54,48,49],[115,121,110,116,97,120,32,101,114,114,111,114])
 else if e=180 then ([52,50,80,48,49],[110,111,32,115,117,99,104,32,116,97,98,108,101])
 else if e=181∨e=186 then ([52,50,80,48,55],[105,116,32,105,115,32,116,104,101,114,101,32,97,108,114,101,97,100,121])
 else if e=182 then ([52,50,55,48,51],[110,111,32,115,117,99,104,32,99,111,108,117,109,110])
 else if e=183 then ([52,50,55,48,49],[116,104,101,32,99,111,108,117,109,110,32,105,115,32,110,97,109,101,100,32,116,119,105,99,101])
 else if e=184 then ([52,50,55,48,50],[116,104,101,32,99,111,108,117,109,110,32,105,115,32,97,109,98,105,103,117,111,117,115])
 else if e=280 then ([52,50,55,49,50],[116,104,101,32,116,97,98,108,101,32,105,115,32,110,97,109,101,100,32,116,119,105,99,101])
 else if e=185 then ([52,50,55,48,52],[110,111,32,115,117,99,104,32,105,110,100,101,120])
 else if e=187 then ([52,50,56,48,52],[116,121,112,101,115,32,100,111,32,110,111,116,32,109,97,116,99,104])
 else if e=188 then ([52,50,56,48,51],[105,116,32,109,117,115,116,32,115,116,97,110,100,32,105,110,32,71,82,79,85,80,32,66,89,32,111,114,32,105,110,32,97,110,32,97,103,103,114,101,103,97,116,101])
 else if e=283 then ([52,50,80,49,48],[105,116,32,109,117,115,116,32,115,116,97,110,100,32,105,110,32,116,104,101,32,115,101,108,101,99,116,32,108,105,115,116])
 else if e=189 then ([52,50,80,49,54],[111,110,101,32,112,114,105,109,97,114,121,32,107,101,121,32,105,115,32,110,101,101,100,101,100])
 else if e=281∨e=201∨e=223 then ([53,52,48,48,48],[97,32,108,105,109,105,116,32,105,115,32,101,120,99,101,101,100,101,100])
 else if e=190 then ([50,50,48,48,51],[110,117,109,98,101,114,32,111,117,116,32,111,102,32,114,97,110,103,101])
 else if e=191 then ([50,50,48,49,50],[100,105,118,105,115,105,111,110,32,98,121,32,122,101,114,111])
 else if e=192 then ([50,50,48,48,49],[116,101,120,116,32,105,115,32,116,111,111,32,108,111,110,103])
 else if e=221 then ([50,51,53,48,53],[116,104,101,32,107,101,121,32,105,115,32,116,104,101,114,101,32,97,108,114,101,97,100,121])
 else if e=222 then ([50,51,53,48,50],[110,117,108,108,32,119,104,101,114,101,32,110,111,110,101,32,109,97,121,32,98,101])
 else if e=24∨e=23 then ([53,51,49,48,48],[116,104,101,32,100,105,115,107,32,105,115,32,102,117,108,108])
 else if e=161∨e=144 then ([52,48,48,48,49],[98,101,103,105,110,32,116,104,101,32,116,114,97,110,115,97,99,116,105,111,110,32,97,103,97,105,110])
 else if e=82 then ([53,51,48,48,48],[111,117,116,32,111,102,32,116,105,109,101,115,116,97,109,112,115])
 else if e=230∨e=231∨e=232 then ([48,56,80,48,49],[112,114,111,116,111,99,111,108,32,118,105,111,108,97,116,105,111,110])
 else if e=224∨e=282 then ([88,88,48,48,49],[115,116,111,114,101,100,32,114,111,119,115,32,97,114,101,32,100,97,109,97,103,101,100])
 else ([88,88,48,48,48],[105,110,116,101,114,110,97,108,32,101,114,114,111,114])
structure Ses where
 pid:Int
 secret:Int
 status:Int:=0
 left:Bs:=[]
 query:Bool:=false
 stmts:List TStmt:=[]
 kind:Int:=0
 stmt:TStmt:=default
 own:Bool:=false
 ended:Bool:=false
 out:Bs:=[]
def BD (s:Ses)(l:List TBack):Ses:=if (EO l []).2 != 0 then s else {s with out:=s.out++(EO l []).1}
def BP (s:Ses)(e:Int)(fatal:Bool):Ses:=BD s [{fKind:=9,fState:=(Ey e).1,fText:=(Ey e).2,fFatal:=fatal}]
def DD (s:Ses)(tag:Bs):Ses:=BD s [{fKind:=7,fText:=tag}]
def Fa (s:Ses):Ses:={s with ended:=true,left:=[],query:=false,stmts:=[],kind:=if s.status==84||s.kind==4 then 4 else 0,stmt:=default,own:=false}
def BR (s:Ses):Ses:=if s.status==84 then {s with stmts:=[],status:=69,kind:=4,stmt:=default,own:=false} else {s with stmts:=[]}
def JX (s:Ses)(kind asked:Int)(tag:Bs):Ses:=if s.status==asked then {s with kind:=kind,stmt:=default,own:=false} else DD s tag
def EG (s:Ses)(x:TStmt):Ses:=
 if s.status==69 then (if x.fKind==10||x.fKind==11 then DD {s with status:=73} [82,79,76,76,66,65,67,75]
  else {BD s [{fKind:=9,fState:=[50,53,80,48,50],fText:=[116,104,101,32,116,114,97,110,115,97,99,116,105,111,110,32,104,97,115,32,102,97,105,108,101,100]}] with stmts:=[]})
 else if x.fKind==9 then JX s 2 73 [66,69,71,73,78]
 else if x.fKind==10 then JX s 3 84 [67,79,77,77,73,84]
 else if x.fKind==11 then JX s 4 84 [82,79,76,76,66,65,67,75]
 else {s with kind:=1,stmt:=x,own:=s.status==73}
def Ic (s:Ses):Ses:=BD {s with status:=73} [{fKind:=1},{fKind:=2,fName:=[115,101,114,118,101,114,95,118,101,114,115,105,111,110],fText:=[49,54,46,48]},{fKind:=2,fName:=[99,108,105,101,110,116,95,101,110,99,111,100,105,110,103],fText:=[85,84,70,56]},{fKind:=2,fName:=[68,97,116,101,83,116,121,108,101],fText:=[73,83,79]},{fKind:=3,fPid:=s.pid,fSecret:=s.secret},{fKind:=4,fStatus:=73}]
def UX (s:Ses)(t:Bs):Ses:=
 if (Ce t).2.code != 0 then BR (BP {s with query:=true} (Ce t).2.code false)
 else if (Ce t).1.isEmpty then {BD {s with query:=true} [{fKind:=8}] with stmts:=(Ce t).1}
 else {s with query:=true,stmts:=(Ce t).1}
def Hg (s:Ses)(f:TFront):Ses:=
 if f.fKind==2 then BD s [{fKind:=10}]
 else if f.fKind==3||f.fKind==5 then Fa s
 else if f.fKind==1 then Ic s
 else if f.fKind==4 then UX s f.fText
 else Fa (BP s 230 true)
def Az (s:Ses):Option Ses:=
 if s.ended||s.kind != 0 then none
 else if s.query&& !s.stmts.isEmpty then some (EG {s with stmts:=s.stmts.tail} (s.stmts.headD default))
 else if s.query then some (BD {s with query:=false} [{fKind:=4,fStatus:=s.status}])
 else
  let q:=Ap s.left (s.status==0)
  if q.2.2==10 then none
  else if q.2.2 != 0 then some (Fa (BP s q.2.2 true))
  else some (Hg {s with left:=s.left.drop q.2.1.toNat} q.1)
def onF:Nat→Ses→Ses
 |0,s=>s
 |f+1,s=>match Az s with
  |none=>s
  |some t=>onF f t
def AKw (s:Ses):Nat:=s.left.length * 2010+s.stmts.length+(if s.query then 1 else 0)+1
def goF (s:Ses):Ses:=onF (AKw s) s
def DR (s:Ses)(b:Bs):Ses×Bs:=
 if s.ended then (s,[]) else
 let s1:={s with left:=s.left++b}
 let s2:=if 2097152 < s1.left.length then Fa (BP s1 231 true) else goF s1
 ({s2 with out:=[]},s2.out)
def Ec (dec:Int→Bs)(v:TValue):TCell:=
 if v.fNull then ⟨true,[]⟩ else if v.fType==1 then ⟨false,dec v.fInt⟩ else if v.fType==2 then ⟨false,if v.fInt==1 then [116] else [102]⟩ else ⟨false,v.fText⟩
def Bh (dec:Int→Bs)(o:TOut):List TBack:=(if o.fFields.length > 0 then {fKind:=5,fFields:=o.fFields}::o.fRows.map λr=>{fKind:=6,fCells:=r.map (Ec dec)} else [])++[{fKind:=7,fText:=o.fTag}]
def Gt (s:Ses)(asked e:Int):Ses:=
 let s:={s with status:=73}
 if e != 0 then {BP s e false with stmts:=[]} else if asked==2 then DD {s with status:=84} [66,69,71,73,78] else DD s [67,79,77,77,73,84]
def Ba (dec : Int → Bs) (s : Ses) (o : TOut) (e : Int) : Ses :=
  let asked := s.kind
  let s0 := { s with kind := 0, stmt := default, own := false }
  if asked == 1 then
    (let e1 := if e == 0 then (EO (Bh dec o) []).2 else e
     let s2 := if e == 0 then BD s0 (Bh dec o) else s0
     if e1 != 0 then BR (BP s2 e1 false) else s2)
  else if asked == 4 then (if s0.status == 84 && !s0.ended then DD { s0 with status := 73 } [82, 79, 76, 76, 66, 65, 67, 75] else s0)
  else Gt s0 asked e
def Fe (dec:Int→Bs)(s:Ses)(o:TOut)(e:Int):Ses×Bs:=
 if s.kind==0 then (s,[]) else ({goF (Ba dec s o e) with out:=[]},(goF (Ba dec s o e)).out)
theorem YZ (a b:List Bs):txB (a++b)=txB a++txB b:=by simp only [txB,List.flatMap_append]
theorem Ja (a:Bs):txB [a]=a++[0]:=by simp only [txB,zbh,List.flatMap_nil,zaK]
abbrev OwB (X:LH)(v:Value)(l:Bs):Prop:=SlO 5 1 X v (Lib.byteCells l) l.length
theorem OwB.mk {X:LH}{v:Value}{l t:Bs}(h:SlO 5 1 X v (Lib.byteCells l++Lib.byteCells t) (l.length+t.length)):OwB X v (l++t):=by
 unfold OwB;rw [Lib.byteCells_append,zk];exact h
theorem AAu (n:Int):((byI n).toNat:Int)=IntKind.u8.wrap n:=by
 have h:(0:Int)≤n % 256∧n % 256 < 256:=by omega
 simp only [byI,IntKind.wrap,IntKind.signed,IntKind.bits];simp
 omega
theorem AHO (a:Int)(m:Nat)(h:m≤7):AA .shr (.int .i64 a) (.int .i64 (8 * (m:Int)))=some (.int .i64 (a.fdiv (2 ^ (8 * m)))):=by
 have h1:¬(8 * (m:Int)) < 0:=by omega
 simp only [AA];rw [if_neg h1];have h2:min (8 * (m:Int)).toNat IntKind.i64.bits=8 * m:=by
  have:IntKind.i64.bits=64:=rfl;rw [this];omega
 rw [h2]
section
variable {ω:Om}{I:Imm}{F:LH}{K:Value→M}
theorem zqa {P Q:Prop}(k:Q)(h:Q→P:=by intro hq;first|(with_reducible refine Dy ?_;exact hq)|(with_reducible refine Xy ?_;exact hq)|(with_reducible refine AMN ?_;exact hq)|(with_reducible exact keepA hq)):P:=h k
theorem zqr {P Q:Prop}(k:Q)(h:Q→P:=by intro hq;first|(with_reducible refine rdb ?_;exact hq)):P:=h k
theorem zqb {P Q:Prop}(k:Q)(h:Q→P:=by intro hq;first|((with_reducible first|refine st1 ?_ ?_|refine rdB ?_ ?_);rfl;exact hq)|(with_reducible refine BM ?_;exact hq)|((with_reducible refine Pe ?_ ?_);rfl;exact hq)|((with_reducible refine stB ?_ ?_ ?_ ?_);rfl;rfl;exact Ak rfl;exact hq)|((with_reducible first|refine rdP _ rfl ?_ ?_|refine AHn _ rfl ?_ ?_);rfl;exact hq)|((with_reducible refine stP _ rfl ?_ ?_ ?_ ?_);rfl;rfl;rfl;exact hq)):P:=h k
theorem zqc {P Q:Prop}(k:Q)(h:Q→P:=by intro hq;first|(simp only [SSg,Int.reduceBEq,Int.reduceBNe,Int.reduceLT,Int.reduceLE,beq_self_eq_true,bne_self_eq_false];exact hq)):P:=h k
theorem zqe {P Q:Prop}(k:Q)(h:Q→P:=by intro hq;first|(simp only [SSd,Nat.reduceAdd];exact hq)):P:=h k
theorem zqg {P A B C D:Prop}(k:A→C)(l:B→D)(h:(A→C)→(B→D)→P:=by intro h1 h2;with_reducible first|exact BZ h1 h2|exact AP h1 h2):P:=h k l
theorem zqh {P:Prop}{α:Type}{Q:α→Prop}(k:∀x,Q x)(h:(∀x,Q x)→P:=by intro h;with_reducible exact Am h):P:=h k
theorem zqi {P A B:Prop}(k:A)(l:B)(h:A→B→P:=by intro h1 h2;with_reducible exact And.intro h1 h2):P:=h k l
theorem WW {X:LH}{v:Value}{l:Bs}(ho:OwB X v l)(n:Int)(k:Nat)(hk8:k≤8)(hl:l.length≤1000000000000)(hk:∀X' v',OwB X' v' (l++beB n k)→K v' I (X'++F)):CT ω 91 #[v,.int .i64 n,.int .i64 (k:Nat)] K I (X++F):=by
 refine APv ?_;unfold AOx;simp only [wrap_i64 ((k:Int) - 1) zo,SSd,Nat.reduceAdd];refine loop (λm st I' L'=>∃(X':LH) (v':Value) (l':Bs),m≤8∧st=(v',Value.int .i64 ((m:Int) - 1),())∧I'=I∧L'=X'++F∧OwB X' v' l'∧l'++beB n m=l++beB n k∧l'.length+m=l.length+k) k ⟨X,v,l,hk8,rfl,rfl,rfl,ho,rfl,rfl⟩ ?_;rintro m st I' L' ⟨X',v',l',hm,rfl,rfl,rfl,ho',he,hle⟩;unfold ADZ;try refine zqe ?_
 refine AP (λhb=>?_) (λhb=>?_)
 ·have hm0:1≤m:=by
   have:=of_decide_eq_true hb;omega
  obtain ⟨m,rfl⟩:∃q,m=q+1:=⟨m - 1,by omega⟩;have e1:((m+1:Nat):Int) - 1=(m:Int):=by omega
  simp only [e1,wrap_i64 (8 * (m:Int)) zo,AHO n m zo,SSd,Nat.reduceAdd];rw [←AAu];refine CU rfl zx rfl (λX1 u hX1=>?_);refine BQ (X:=X') rfl ho' (hX1.news (λx hx=>zae _ hx)) (λu hu=>?_) zo zo (λX2 v2 hX2=>?_)
  ·rw [zN.1 hu];rfl
  have hX2:OwB X2 v2 (l'++[byI (n.fdiv (2 ^ (8 * m)))]):=OwB.mk hX2;simp only [wrap_i64 ((m:Int) - 1) zo,SSd,Nat.reduceAdd];exact zAG (X2++F) (zAA ⟨m,by omega,X2,v2,_,by omega,rfl,rfl,rfl,hX2,by rw [←he];simp [beB],by rw [zk,List.length_singleton];omega⟩)
 ·have hm0:m=0:=by
   have:=of_decide_eq_false hb;omega
  subst hm0;have e:l'=l++beB n k:=by simpa [beB] using he
  subst e;exact zAA (hk X' v' ho')
theorem MI {X:LH}{v w:Value}{l:Bs}{xs:List Bs}(ho:OwB X v l)(hx:RL StrV 1 I [] w xs)(hx0:xs.length≤1000000000000)(hl:l.length+(txB xs).length≤1000000000000)(hk:∀X' v',OwB X' v' (l++txB xs)→K v' I (X'++F)):CT ω 95 #[v,w] K I (X++F):=by
 refine APr ?_;unfold AOt;simp only [zAQ hx,SSd,Nat.reduceAdd];refine loop (λm st I' L'=>∃(k:Nat) (X':LH) (v':Value),k+m=xs.length∧st=(v',Value.int .i64 (k:Nat),())∧I'=I∧L'=X'++F∧OwB X' v' (l++txB (xs.take k))) xs.length ⟨0,X,v,by omega,rfl,rfl,rfl,by simpa [txB] using ho⟩ ?_;rintro m st I' L' ⟨k,X',v',hkm,rfl,rfl,rfl,ho'⟩;unfold ADT;try refine zqe ?_
 refine AP (λhb=>?_) (λhb=>?_)
 ·have hb:k < xs.length:=by
   have:=of_decide_eq_true hb;omega
  obtain ⟨bt,off,c1,g1,gl,g2,g3⟩:=RL.ix hx (i:=k) zo zo;rw [BH hb] at g2;obtain rfl:=g2;have e:txB (xs.take (k+1))=txB (xs.take k)++(xs[k]++[0]):=by
   rw [zg hb,YZ,Ja]
  have hle:(txB (xs.take (k+1))).length≤(txB xs).length:=by
   have h:=YZ (xs.take (k+1)) (xs.drop (k+1));rw [zaf] at h;rw [h,zk];omega
  rw [e] at hle;simp only [zk,List.length_singleton] at hle;simp only [g1,SSd,Nat.reduceAdd];refine rdC (g3 I' [] (zAC _) (λ_ h=>h) 0 _ rfl) (zAC _) ?_;refine BQ (X:=X') (n:=1) (m:=xs[k].length) rfl ho' (news:=Lib.byteCells xs[k]) (.inr (.inr ⟨⟨xs[k].toArray⟩,rfl,rfl,rfl,rfl⟩)) (λu hu=>?_) (by rw [zk];omega) (by rw [zk];omega) (λX2 v2 hX2=>?_)
  ·obtain ⟨d,_,rfl⟩:=zal.1 hu;rfl
  have hX2:OwB X2 v2 (l++txB (xs.take k)++xs[k]):=OwB.mk hX2;refine CU (v:=.int .u8 0) rfl zx rfl (λX1 u hX1=>?_);refine BQ (X:=X2) (L:=X1++(X2++F)) (F:=X1++F) rfl hX2 (hX1.news (λx hx=>zae _ hx)) (λu hu=>?_) (by simp only [zk];omega) (by simp only [zk];omega) (λX3 v3 hX3=>?_)
  ·rw [zN.1 hu];rfl
  have hX3:OwB X3 v3 (l++txB (xs.take (k+1))):=by
   have e2:l++txB (xs.take (k+1))=(l++txB (xs.take k)++xs[k])++[0]:=by rw [e];simp
   rw [e2];exact OwB.mk hX3
  simp only [wrap_i64 ((k:Int)+1) zo,SSd,Nat.reduceAdd];exact zAG (X3++F) (zAA ⟨m - 1,by omega,k+1,X3,v3,by omega,rfl,rfl,rfl,hX3⟩)
 ·have hb:¬k < xs.length:=by
   have:=of_decide_eq_false hb;omega
  have e:xs.take k=xs:=zY zo;rw [e] at ho';exact zAA (hk X' v' ho')
end
def Vq:Nat→Nat→Bs→Bs
 |0,_,acc=>acc
 |f+1,n,acc=>if n < 10 then UInt8.ofNat (48+n)::acc else Vq f (n / 10) (UInt8.ofNat (48+n % 10)::acc)
def BB (b:Bool)(n:Int):Bs:=if n < 0 then (if b then 45::Vq (n.natAbs+1) n.natAbs [] else [45]) else Vq (n.toNat+1) n.toNat []
def AQl (s:Bs):Bool:= !s.isEmpty&& !s.head?.any Bi&& !wordsL.contains s&&s.all λc=>(DJ c||Bi c)&& !(65≤c&&c≤90)
mutual
def APb:Ex→Ex→Bool
 | .mk k v t n s ty d l,y=>k==y.kind&&v==y.value&&t==y.table&&n==y.name&&s==y.slot&&ty==y.type&&d==y.distinct&&AKp l y.args
def AKp:List Ex→List Ex→Bool
 |[],l=>l.isEmpty
 |x::xs,l=>match l with
  |[]=>false
  |y::ys=>APb x y&&AKp xs ys
end
abbrev BX (x:Ex)(v:Value):List Value:=
 [.int .i64 x.kind,.int .i64 x.value.fType,.bool x.value.fNull,.int .i64 x.value.fInt,.string ⟨x.value.fText.toArray⟩,.string ⟨x.table.toArray⟩,.string ⟨x.name.toArray⟩,.int .i64 x.slot,.int .i64 x.type,.bool x.distinct,v]
mutual
def ExV (I:Imm):Ex→List Value→Prop
 | .mk k v t n s ty d l,c=>∃a cap cells,l.length≤cap∧News 11 (.slice a l.length cap) I [] l.length cells∧ExC I l cells∧c=BX (.mk k v t n s ty d l) (.slice a l.length cap)
def ExC (I:Imm):List Ex→List Value→Prop
 |[],c=>c=[]
 |x::l,c=>(c.take 11).length=11∧ExV I x (c.take 11)∧ExC I l (c.drop 11)
end
theorem ExC.recs {I:Imm}:∀{l:List Ex} {c:List Value},ExC I l c↔Recs (ExV I) 11 l c
 |[],c=>Iff.rfl
 |x::l,c=>by simp only [ExC,Recs,ExC.recs (l:=l)]
theorem ExV.iff {I:Imm}{x:Ex}{c:List Value}:ExV I x c↔∃v,c=BX x v∧RL ExV 11 I [] v x.args:=by
 obtain ⟨k,v,t,n,s,ty,d,l⟩:=x;simp only [ExV,Ex.args];constructor
 ·rintro ⟨a,cap,cells,h1,h2,h3,rfl⟩;exact ⟨_,rfl,a,cap,cells,rfl,h1,h2,ExC.recs.1 h3⟩
 ·rintro ⟨_,rfl,a,cap,cells,rfl,h1,h2,h3⟩;exact ⟨a,cap,cells,h1,h2,ExC.recs.2 h3,rfl⟩
mutual
theorem ExV.mono {I I':Imm}(hI:Ext I I'):∀{x:Ex} {c:List Value},ExV I x c→ExV I' x c
 | .mk k v t n s ty d l,c,⟨a,cap,cells,h1,h2,h3,h4⟩=>⟨a,cap,cells,h1,h2.mono hI (λ_ h=>h),ExC.mono hI h3,h4⟩
theorem ExC.mono {I I':Imm}(hI:Ext I I'):∀{l:List Ex} {c:List Value},ExC I l c→ExC I' l c
 |[],_,h=>h
 |x::l,_,⟨h1,h2,h3⟩=>⟨h1,ExV.mono hI h2,ExC.mono hI h3⟩
end
theorem ExV.mk {I:Imm}{x:Ex}{v:Value}(h:RL ExV 11 I [] v x.args):ExV I x (BX x v):=ExV.iff.2 ⟨v,rfl,h⟩
theorem ExV.len {I:Imm}{x:Ex}{c:List Value}(h:ExV I x c):c.length=11:=by
 obtain ⟨v,rfl,_⟩:=ExV.iff.1 h;rfl
theorem ExV.one {I:Imm}{x:Ex}{c:List Value}(h:ExV I x c):∀u∈c,u.oneCell'=true:=by
 obtain ⟨v,rfl,h'⟩:=ExV.iff.1 h;obtain ⟨a,cap,rfl⟩:=zAH h';exact Ak rfl
def exZ:List Value:=[.int .i64 0,.int .i64 0,.bool false,.int .i64 0,.string ⟨#[]⟩,.string ⟨#[]⟩,.string ⟨#[]⟩,.int .i64 0,.int .i64 0,.bool false,.slice none 0 0]
abbrev ExL (I:Imm)(v:Value)(l:List Ex):Prop:=RL ExV 11 I [] v l
theorem ExL.mono {I I':Imm}{v:Value}{l:List Ex}(h:ExL I v l)(hI:Ext I I'):ExL I' v l:=zAL (λ_ _ h=>ExV.mono hI h) h hI (λ_ h=>h)
theorem zAM:type_of% @ExL.mono:=@ExL.mono
theorem ExL.k {I:Imm}{v:Value}{l:List Ex}{k:Int}(h:ExL I v l):ExL I v (exK k l).args:=h
abbrev StL (I:Imm)(v:Value)(l:List Bs):Prop:=RL StrV 1 I [] v l
theorem StL.mono {I I':Imm}{v:Value}{l:List Bs}(h:StL I v l)(hI:Ext I I'):StL I' v l:=zAL (λ_ _ h=>StrV.mono h hI) h hI (λ_ h=>h)
theorem LstX.mono {I I':Imm}{x:List Ex}{c:List Value}(h:MC ExV 11 I x c)(hI:Ext I I'):MC ExV 11 I' x c:=by
 obtain ⟨v,rfl,h⟩:=h;exact ⟨v,rfl,zAM h hI⟩
def TItemV (I:Imm)(x:TItem)(c:List Value):Prop:=∃v0,c=[.bool x.fStar,.string ⟨x.fTable.toArray⟩,.int .i64 x.fExpr.kind,.int .i64 x.fExpr.value.fType,.bool x.fExpr.value.fNull,.int .i64 x.fExpr.value.fInt,.string ⟨x.fExpr.value.fText.toArray⟩,.string ⟨x.fExpr.table.toArray⟩,.string ⟨x.fExpr.name.toArray⟩,.int .i64 x.fExpr.slot,.int .i64 x.fExpr.type,.bool x.fExpr.distinct,v0,.string ⟨x.fAs.toArray⟩]∧ExL I v0 x.fExpr.args
theorem TItemV.mono {I I':Imm}{x:TItem}{c:List Value}(h:TItemV I x c)(hI:Ext I I'):TItemV I' x c:=by
 obtain ⟨v0,rfl,h0⟩:=h;exact ⟨v0,rfl,zAM h0 hI⟩
theorem TItemV.len {I:Imm}{x:TItem}{c:List Value}(h:TItemV I x c):c.length=14:=by
 obtain ⟨v0,rfl,h0⟩:=h;rfl
theorem TItemV.one {I:Imm}{x:TItem}{c:List Value}(h:TItemV I x c):∀u∈c,u.oneCell'=true:=by
 obtain ⟨v0,rfl,h0⟩:=h;obtain ⟨_,_,rfl⟩:=zAH h0;exact Ak rfl
def TSourceV (I:Imm)(x:TSource)(c:List Value):Prop:=∃v0,c=[.string ⟨x.fTable.toArray⟩,.string ⟨x.fAs.toArray⟩,.bool x.fLeft,.int .i64 x.fOn.kind,.int .i64 x.fOn.value.fType,.bool x.fOn.value.fNull,.int .i64 x.fOn.value.fInt,.string ⟨x.fOn.value.fText.toArray⟩,.string ⟨x.fOn.table.toArray⟩,.string ⟨x.fOn.name.toArray⟩,.int .i64 x.fOn.slot,.int .i64 x.fOn.type,.bool x.fOn.distinct,v0]∧ExL I v0 x.fOn.args
theorem TSourceV.mono {I I':Imm}{x:TSource}{c:List Value}(h:TSourceV I x c)(hI:Ext I I'):TSourceV I' x c:=by
 obtain ⟨v0,rfl,h0⟩:=h;exact ⟨v0,rfl,zAM h0 hI⟩
theorem TSourceV.len {I:Imm}{x:TSource}{c:List Value}(h:TSourceV I x c):c.length=14:=by
 obtain ⟨v0,rfl,h0⟩:=h;rfl
def TOrderV (I:Imm)(x:TOrder)(c:List Value):Prop:=∃v0,c=[.int .i64 x.fExpr.kind,.int .i64 x.fExpr.value.fType,.bool x.fExpr.value.fNull,.int .i64 x.fExpr.value.fInt,.string ⟨x.fExpr.value.fText.toArray⟩,.string ⟨x.fExpr.table.toArray⟩,.string ⟨x.fExpr.name.toArray⟩,.int .i64 x.fExpr.slot,.int .i64 x.fExpr.type,.bool x.fExpr.distinct,v0,.bool x.fDesc]∧ExL I v0 x.fExpr.args
theorem TOrderV.mono {I I':Imm}{x:TOrder}{c:List Value}(h:TOrderV I x c)(hI:Ext I I'):TOrderV I' x c:=by
 obtain ⟨v0,rfl,h0⟩:=h;exact ⟨v0,rfl,zAM h0 hI⟩
theorem TOrderV.len {I:Imm}{x:TOrder}{c:List Value}(h:TOrderV I x c):c.length=12:=by
 obtain ⟨v0,rfl,h0⟩:=h;rfl
theorem TOrderV.one {I:Imm}{x:TOrder}{c:List Value}(h:TOrderV I x c):∀u∈c,u.oneCell'=true:=by
 obtain ⟨v0,rfl,h0⟩:=h;obtain ⟨_,_,rfl⟩:=zAH h0;exact Ak rfl
def CZ (I:Imm)(x:TSelect)(c:List Value):Prop:=∃v0 v1 v2 v3 v4 v5,c=[.bool x.fDistinct,v0,v1,.int .i64 x.fWhere.kind,.int .i64 x.fWhere.value.fType,.bool x.fWhere.value.fNull,.int .i64 x.fWhere.value.fInt,.string ⟨x.fWhere.value.fText.toArray⟩,.string ⟨x.fWhere.table.toArray⟩,.string ⟨x.fWhere.name.toArray⟩,.int .i64 x.fWhere.slot,.int .i64 x.fWhere.type,.bool x.fWhere.distinct,v2,v3,.int .i64 x.fHaving.kind,.int .i64 x.fHaving.value.fType,.bool x.fHaving.value.fNull,.int .i64 x.fHaving.value.fInt,.string ⟨x.fHaving.value.fText.toArray⟩,.string ⟨x.fHaving.table.toArray⟩,.string ⟨x.fHaving.name.toArray⟩,.int .i64 x.fHaving.slot,.int .i64 x.fHaving.type,.bool x.fHaving.distinct,v4,v5,.int .i64 x.fLimit,.int .i64 x.fOffset]∧RL TItemV 14 I [] v0 x.fItems∧RL TSourceV 14 I [] v1 x.fFrom∧ExL I v2 x.fWhere.args∧RL ExV 11 I [] v3 x.fGroup∧ExL I v4 x.fHaving.args∧RL TOrderV 12 I [] v5 x.fOrder
def TSetV (I:Imm)(x:TSet)(c:List Value):Prop:=∃v0,c=[.string ⟨x.fColumn.toArray⟩,.int .i64 x.fExpr.kind,.int .i64 x.fExpr.value.fType,.bool x.fExpr.value.fNull,.int .i64 x.fExpr.value.fInt,.string ⟨x.fExpr.value.fText.toArray⟩,.string ⟨x.fExpr.table.toArray⟩,.string ⟨x.fExpr.name.toArray⟩,.int .i64 x.fExpr.slot,.int .i64 x.fExpr.type,.bool x.fExpr.distinct,v0]∧ExL I v0 x.fExpr.args
theorem TSetV.mono {I I':Imm}{x:TSet}{c:List Value}(h:TSetV I x c)(hI:Ext I I'):TSetV I' x c:=by
 obtain ⟨v0,rfl,h0⟩:=h;exact ⟨v0,rfl,zAM h0 hI⟩
theorem TSetV.len {I:Imm}{x:TSet}{c:List Value}(h:TSetV I x c):c.length=12:=by
 obtain ⟨v0,rfl,h0⟩:=h;rfl
theorem TSetV.one {I:Imm}{x:TSet}{c:List Value}(h:TSetV I x c):∀u∈c,u.oneCell'=true:=by
 obtain ⟨v0,rfl,h0⟩:=h;obtain ⟨_,_,rfl⟩:=zAH h0;exact Ak rfl
def TColV (I:Imm)(x:TCol)(c:List Value):Prop:=∃v0,c=[.string ⟨x.fName.toArray⟩,.int .i64 x.fType,.bool x.fNotNull,.bool x.fKey,.bool x.fUnique,.int .i64 x.fDefault.kind,.int .i64 x.fDefault.value.fType,.bool x.fDefault.value.fNull,.int .i64 x.fDefault.value.fInt,.string ⟨x.fDefault.value.fText.toArray⟩,.string ⟨x.fDefault.table.toArray⟩,.string ⟨x.fDefault.name.toArray⟩,.int .i64 x.fDefault.slot,.int .i64 x.fDefault.type,.bool x.fDefault.distinct,v0]∧ExL I v0 x.fDefault.args
theorem TColV.mono {I I':Imm}{x:TCol}{c:List Value}(h:TColV I x c)(hI:Ext I I'):TColV I' x c:=by
 obtain ⟨v0,rfl,h0⟩:=h;exact ⟨v0,rfl,zAM h0 hI⟩
theorem TColV.len {I:Imm}{x:TCol}{c:List Value}(h:TColV I x c):c.length=16:=by
 obtain ⟨v0,rfl,h0⟩:=h;rfl
theorem TColV.one {I:Imm}{x:TCol}{c:List Value}(h:TColV I x c):∀u∈c,u.oneCell'=true:=by
 obtain ⟨v0,rfl,h0⟩:=h;obtain ⟨_,_,rfl⟩:=zAH h0;exact Ak rfl
def TStmtV (I:Imm)(x:TStmt)(c:List Value):Prop:=∃v0 v1 v2 v3 v4 v5 v6 v7 v8 v9 v10 v11 v12,c=[.int .i64 x.fKind,.bool x.fSelect.fDistinct,v0,v1,.int .i64 x.fSelect.fWhere.kind,.int .i64 x.fSelect.fWhere.value.fType,.bool x.fSelect.fWhere.value.fNull,.int .i64 x.fSelect.fWhere.value.fInt,.string ⟨x.fSelect.fWhere.value.fText.toArray⟩,.string ⟨x.fSelect.fWhere.table.toArray⟩,.string ⟨x.fSelect.fWhere.name.toArray⟩,.int .i64 x.fSelect.fWhere.slot,.int .i64 x.fSelect.fWhere.type,.bool x.fSelect.fWhere.distinct,v2,v3,.int .i64 x.fSelect.fHaving.kind,.int .i64 x.fSelect.fHaving.value.fType,.bool x.fSelect.fHaving.value.fNull,.int .i64 x.fSelect.fHaving.value.fInt,.string ⟨x.fSelect.fHaving.value.fText.toArray⟩,.string ⟨x.fSelect.fHaving.table.toArray⟩,.string ⟨x.fSelect.fHaving.name.toArray⟩,.int .i64 x.fSelect.fHaving.slot,.int .i64 x.fSelect.fHaving.type,.bool x.fSelect.fHaving.distinct,v4,v5,.int .i64 x.fSelect.fLimit,.int .i64 x.fSelect.fOffset,.string ⟨x.fTable.toArray⟩,v6,v7,v8,.int .i64 x.fWhere.kind,.int .i64 x.fWhere.value.fType,.bool x.fWhere.value.fNull,.int .i64 x.fWhere.value.fInt,.string ⟨x.fWhere.value.fText.toArray⟩,.string ⟨x.fWhere.table.toArray⟩,.string ⟨x.fWhere.name.toArray⟩,.int .i64 x.fWhere.slot,.int .i64 x.fWhere.type,.bool x.fWhere.distinct,v9,v10,v11,.string ⟨x.fIndex.fName.toArray⟩,.string ⟨x.fIndex.fTable.toArray⟩,v12,.bool x.fIndex.fUnique]∧RL TItemV 14 I [] v0 x.fSelect.fItems∧RL TSourceV 14 I [] v1 x.fSelect.fFrom∧ExL I v2 x.fSelect.fWhere.args∧RL ExV 11 I [] v3 x.fSelect.fGroup∧ExL I v4 x.fSelect.fHaving.args∧RL TOrderV 12 I [] v5 x.fSelect.fOrder∧RL StrV 1 I [] v6 x.fColumns∧RL (MC ExV 11) 1 I [] v7 x.fRows∧RL TSetV 12 I [] v8 x.fSets∧ExL I v9 x.fWhere.args∧RL TColV 16 I [] v10 x.fCols∧RL StrV 1 I [] v11 x.fKey∧RL StrV 1 I [] v12 x.fIndex.fColumns
theorem TStmtV.mono {I I':Imm}{x:TStmt}{c:List Value}(h:TStmtV I x c)(hI:Ext I I'):TStmtV I' x c:=by
 obtain ⟨v0,v1,v2,v3,v4,v5,v6,v7,v8,v9,v10,v11,v12,rfl,h0,h1,h2,h3,h4,h5,h6,h7,h8,h9,h10,h11,h12⟩:=h;exact ⟨v0,v1,v2,v3,v4,v5,v6,v7,v8,v9,v10,v11,v12,rfl,zAL (λ_ _ h=>TItemV.mono h hI) h0 hI (λ_ h=>by cases h),zAL (λ_ _ h=>TSourceV.mono h hI) h1 hI (λ_ h=>by cases h),zAM h2 hI,zAL (λ_ _ h=>ExV.mono hI h) h3 hI (λ_ h=>by cases h),zAM h4 hI,zAL (λ_ _ h=>TOrderV.mono h hI) h5 hI (λ_ h=>by cases h),zAL (λ_ _ h=>StrV.mono h hI) h6 hI (λ_ h=>by cases h),zAL (λ_ _ h=>LstX.mono h hI) h7 hI (λ_ h=>by cases h),zAL (λ_ _ h=>TSetV.mono h hI) h8 hI (λ_ h=>by cases h),zAM h9 hI,zAL (λ_ _ h=>TColV.mono h hI) h10 hI (λ_ h=>by cases h),zAL (λ_ _ h=>StrV.mono h hI) h11 hI (λ_ h=>by cases h),zAL (λ_ _ h=>StrV.mono h hI) h12 hI (λ_ h=>by cases h)⟩
theorem TStmtV.len {I:Imm}{x:TStmt}{c:List Value}(h:TStmtV I x c):c.length=51:=by
 obtain ⟨v0,v1,v2,v3,v4,v5,v6,v7,v8,v9,v10,v11,v12,rfl,h0,h1,h2,h3,h4,h5,h6,h7,h8,h9,h10,h11,h12⟩:=h;rfl
theorem TStmtV.one {I:Imm}{x:TStmt}{c:List Value}(h:TStmtV I x c):∀u∈c,u.oneCell'=true:=by
 obtain ⟨v0,v1,v2,v3,v4,v5,v6,v7,v8,v9,v10,v11,v12,rfl,h0,h1,h2,h3,h4,h5,h6,h7,h8,h9,h10,h11,h12⟩:=h;obtain ⟨_,_,rfl⟩:=zAH h0;obtain ⟨_,_,rfl⟩:=zAH h1;obtain ⟨_,_,rfl⟩:=zAH h2;obtain ⟨_,_,rfl⟩:=zAH h3;obtain ⟨_,_,rfl⟩:=zAH h4;obtain ⟨_,_,rfl⟩:=zAH h5;obtain ⟨_,_,rfl⟩:=zAH h6;obtain ⟨_,_,rfl⟩:=zAH h7;obtain ⟨_,_,rfl⟩:=zAH h8;obtain ⟨_,_,rfl⟩:=zAH h9;obtain ⟨_,_,rfl⟩:=zAH h10;obtain ⟨_,_,rfl⟩:=zAH h11;obtain ⟨_,_,rfl⟩:=zAH h12;exact Ak rfl
end Go.Proofs.YthkaekjoemhjaaaGreatDoor
namespace Go.SL
def Wq:Nat→List Value→List (Nat×Value)
 |_,[]=>[]
 |i,v::r=>(i,v)::Wq (i+1) r
theorem AAn:∀(vs:List Value) (cs:Array Value) (off k:Nat),off+k+vs.length≤cs.size→(vs.zipIdx k).foldl (λcs (c,j)=>cs.setIfInBounds (off+j) c) cs=wr cs (off+k) vs
 |[],cs,off,k,_=>rfl
 |v::vs,cs,off,k,h=>by
  simp only [List.zipIdx_cons,List.foldl_cons,wr];simp only [zf] at h;exact AAn vs (cs.setIfInBounds (off+k) v) off (k+1) zu
theorem Vo {n:Nat}:∀(vs:List Value) (k:Nat) (cells:Array Value),(∀v∈vs,v.cells.size=n)→(k+vs.length) * n≤cells.size→
  ∃r,Instr.fill (λi=>some (i * n,n)) cells (Wq k vs)=some r∧r.toList=cells.toList.take (k * n)++vs.flatMap (·.cells.toList)++cells.toList.drop ((k+vs.length) * n)
 |[],k,cells,_,h=>⟨cells,rfl,by simp⟩
 |v::vs,k,cells,hv,h=>by
  have hv0:=hv v (zK ..);simp only [zf] at h;have e1:(k+1) * n=k * n+n:=by rw [zaA,Nat.one_mul]
  have e2:(k+(vs.length+1)) * n=(k+1+vs.length) * n:=by congr 1;omega
  have e3:(k+1) * n≤(k+1+vs.length) * n:=zaB n zo;have hsz:k * n+v.cells.size≤cells.size:=by omega
  simp only [Wq,Instr.fill];rw [if_neg (by simp [hv0];omega)];have hf:v.cells.zipIdx.foldl (λcs (c,j)=>cs.setIfInBounds (k * n+j) c) cells=wr cells (k * n) v.cells.toList:=by
   rw [←Array.foldl_toList];simp only [Array.toList_zipIdx];exact AAn v.cells.toList cells (k * n) 0 zu
  rw [hf];obtain ⟨r,h1,h2⟩:=Vo vs (k+1) (wr cells (k * n) v.cells.toList) (λu hu=>hv u (zH _ hu)) (by rw [Nw];omega);refine ⟨r,h1,?_⟩;rw [h2,Oa _ _ _ zu];have hlt:(cells.toList.take (k * n)).length=k * n:=by rw [zB,Array.length_toList];omega
  have hvl:v.cells.toList.length=n:=by rw [Array.length_toList,hv0]
  have e4:k * n+n≤(k+1+vs.length) * n:=by omega
  have e5:(k+(vs.length+1)) * n=(k+1+vs.length) * n:=e2;rw [hvl];simp only [List.toList_toArray,zbh,zf,e5,e1];have a1:(cells.toList.take (k * n)++v.cells.toList++cells.toList.drop (k * n+n)).take (k * n+n)=cells.toList.take (k * n)++v.cells.toList:=by
   rw [zbi (by rw [zk,hlt,hvl];exact zt _),zY (by rw [zk,hlt,hvl];exact zt _)]
  have a2:(cells.toList.take (k * n)++v.cells.toList++cells.toList.drop (k * n+n)).drop ((k+1+vs.length) * n)=cells.toList.drop ((k+1+vs.length) * n):=by
   rw [List.drop_append,zat (by rw [zk,hlt,hvl];exact e4),zaJ,List.drop_drop,zk,hlt,hvl];congr 1
   omega
  rw [a1,a2];simp only [zi]
section
variable {I:Imm}{F:LH}{T n len:Nat}{z:Array Value}{parts:List (Nat×Value)}{K:Value→M}
theorem AOg (vs:List Value)(hp:parts=Wq 0 vs)(hl:vs.length=len)(hv:∀v∈vs,v.cells.size=n)
  (hk:∀X a,SlO T n X (.slice a len len) (vs.flatMap (·.cells.toList)) len→Gh (K (.slice a len len)) I (X++F)):AB T n z len parts (gh K) I F:=by
 subst hp hl;obtain ⟨r,h1,h2⟩:=Vo vs 0 ((Array.range (vs.length * n)).map (z[· % z.size]!)) hv zy;have h2:r=(vs.flatMap (·.cells.toList)).toArray:=by
  apply Array.ext'
  rw [h2];simp only [Nat.zero_mul,List.take_zero,zaJ,zaS];rw [zat zy,zaK]
 subst h2;have hlen:(vs.flatMap (·.cells.toList)).length=vs.length * n:=by
  clear h1 h2 hk;induction vs with
  |nil=>simp
  |cons v vs ih=>
   have h0:=ih (λu hu=>hv u (zH _ hu));rw [zbh,zk,Array.length_toList,hv v (zK ..),h0,zf,zaA,Nat.one_mul,Nat.add_comm]
 refine ⟨_,h1,λb=>?_⟩;exact hk [(b,_)] _ ⟨hlen,.inr ⟨b,vs.length,_,rfl,rfl,by simp [hlen],zt _,λj u hu=>by simpa using hu⟩⟩
theorem Lr (vs:List Value)(hp:parts=Wq 0 vs)(hl:vs.length=len)(hv:∀v∈vs,v.cells.size=n)
  (hk:∀I' a,Ext I I'→SlI I' n (.slice a len len) (vs.flatMap (·.cells.toList)) len→Gh (K (.slice a len len)) I' F):AB T n z len parts (gh K) I F:=
 AOg vs hp hl hv λX a h=>SlO.freeze h λI' hI hS=>hk I' a hI hS
end
def AAh (α:Type):Setoid (List α):=⟨List.Perm,List.Perm.refl,List.Perm.symm,List.Perm.trans⟩
def MS (α:Type):Type:=Quotient (AAh α)
def ms {α:Type}(l:List α):MS α:=Quotient.mk (AAh α) l
def AKr {α:Type}(a b:MS α):MS α:=Quotient.liftOn₂ a b (λx y=>ms (x++y)) (λ_ _ _ _ h1 h2=>Quotient.sound (s:=AAh α) (List.Perm.append h1 h2))
instance {α:Type}:Std.Associative (AKr (α:=α)):=⟨λa b c=>by
 refine Quotient.inductionOn₃ a b c λx y z=>?_;show ms (x++y++z)=ms (x++(y++z));rw [zi]⟩
instance {α:Type}:Std.Commutative (AKr (α:=α)):=⟨λa b=>by
 refine Quotient.inductionOn₂ a b λx y=>?_;exact Quotient.sound (s:=AAh α) List.perm_append_comm⟩
abbrev Key:=List UInt8
def IA (k:Key):Value:=.string ⟨k.toArray⟩
def Iz (e:MapEntry):Key:=match e.key with
 | .string s=>s.data.toList
 |_=>[]
def fnd (k:Key):List MapEntry→Nat→Option (Nat×Value)
 |[],_=>none
 |e::r,i=>if Iz e=k then some (i,e.val) else fnd k r (i+1)
def JA (m:Key→Option Value)(k:Key)(v:Option Value):Key→Option Value:=λq=>if q=k then v else m q
structure MapS (es:Array MapEntry)(clock:Nat)(m:Key→Option Value):Prop where
 str:∀e∈es.toList,∃s:ByteArray,e.key= .string s
 nod:(es.toList.map Iz).Nodup
 brn:∀e∈es.toList,e.born < clock
 bnd:(es.toList.map (·.born)).Nodup
 val:∀k,m k=(fnd k es.toList 0).map (·.2)
theorem ACj {a b:ByteArray}:(a==b)=decide (a.data.toList=b.data.toList):=by
 cases a with
 |mk a=>cases b with
  |mk b=>
   show (a==b)=_;rw [Bool.eq_iff_iff];simp only [beq_iff_eq,decide_eq_true_eq];exact ⟨λh=>by rw [h],λh=>by cases a;cases b;simpa using h⟩
theorem NY {k:Key}:∀{l:List MapEntry} {i:Nat},(∀e∈l,∃s:ByteArray,e.key= .string s)→Instr.findNow .string (IA k) l i=some (fnd k l i)
 |[],_,_=>rfl
 |e::l,i,h=>by
  obtain ⟨s,hs⟩:=h e (zK ..);have ih:=NY (k:=k) (l:=l) (i:=i+1) (λx hx=>h x (zH _ hx));simp only [Instr.findNow,fnd,Iz,hs,IA,Instr.sameNow];rw [ACj];by_cases hk:s.data.toList=k
  ·have:decide ((⟨k.toArray⟩:ByteArray).data.toList=s.data.toList)=true:=by simp [hk]
   rw [this,if_pos hk]
  ·have:decide ((⟨k.toArray⟩:ByteArray).data.toList=s.data.toList)=false:=by simp;exact λh=>hk h.symm
   rw [this,if_neg hk];exact ih
theorem MapS.find {es:Array MapEntry}{clock:Nat}{m:Key→Option Value}(h:MapS es clock m)(k:Key):Instr.findNow .string (IA k) es.toList 0=some (fnd k es.toList 0):=NY h.str
theorem MapS.empty:MapS #[] 0 (λ_=>none):=⟨λe h=>by simp at h,by simp,λe h=>by simp at h,by simp,λk=>rfl⟩
theorem fnd_none {k:Key}:∀{l:List MapEntry} {i:Nat},fnd k l i=none↔k ∉ l.map Iz
 |[],_=>by simp [fnd]
 |e::l,i=>by
  simp only [fnd,zG,zX,not_or];by_cases h:Iz e=k
  ·simp [h]
  ·rw [if_neg h,fnd_none (l:=l)];exact ⟨λh'=>⟨λe'=>h e'.symm,h'⟩,λh'=>h'.2⟩
theorem Vg {k:Key}:∀{l:List MapEntry} {i j:Nat} {v:Value},fnd k l i=some (j,v)→∃n e,j=i+n∧l[n]? =some e∧Iz e=k∧e.val=v
 |[],_,_,_,h=>by simp [fnd] at h
 |e::l,i,j,v,h=>by
  simp only [fnd] at h;split at h
  ·rename_i hk
   simp only [zn,zah] at h;exact ⟨0,e,by omega,rfl,hk,h.2⟩
  ·obtain ⟨n,e',h1,h2,h3,h4⟩:=Vg h;exact ⟨n+1,e',by omega,by simpa using h2,h3,h4⟩
theorem Jm {k:Key}:∀{l:List MapEntry} {i j:Nat},(fnd k l i).map (·.2)=(fnd k l j).map (·.2)
 |[],_,_=>rfl
 |e::l,i,j=>by
  simp only [fnd];split
  ·rfl
  ·exact Jm
theorem QJ {k:Key}:∀{l l':List MapEntry} {i:Nat},(fnd k (l++l') i).map (·.2)=match (fnd k l i).map (·.2) with
  |some v=>some v
  |none=>(fnd k l' 0).map (·.2)
 |[],l',i=>by simp only [zaJ,fnd,Option.map_none];exact Jm
 |e::l,l',i=>by
  simp only [zau,fnd];split
  ·rfl
  ·exact QJ
theorem AAo {k q:Key}{v:Value}:∀{l:List MapEntry} {n:Nat} {e:MapEntry},l[n]? =some e→Iz e=k→(l.map Iz).Nodup→
  (fnd q (l.set n {e with key:=IA k,val:=v}) 0).map (·.2)=if q=k then some v else (fnd q l 0).map (·.2)
 |[],n,e,h,_,_=>by simp at h
 |x::l,0,e,h,hk,hn=>by
  simp only [zac,zn] at h;subst h;have hko:Iz {x with key:=IA k,val:=v}=k:=by simp [Iz,IA]
  simp only [List.set_cons_zero,fnd,hko,hk];by_cases h:k=q
  ·simp [h]
  ·rw [if_neg h,if_neg (λe=>h e.symm),if_neg h]
 |x::l,n+1,e,h,hk,hn=>by
  simp only [zab] at h;simp only [zG,zaX] at hn;simp only [zbm,fnd];have hmem:k∈l.map Iz:=zal.2 ⟨e,List.mem_of_getElem? h,hk⟩;by_cases hx:Iz x=q
  ·rw [if_pos hx,if_pos hx,if_neg];intro e';rw [hx,e'] at hn;exact hn.1 hmem
  ·rw [if_neg hx,if_neg hx];have ih:=AAo (q:=q) (v:=v) h hk hn.2;rw [Jm (j:=0),ih,Jm (i:=0+1) (j:=0)]
theorem VC {k:Key}{v:Value}:∀{l:List MapEntry} {n:Nat} {e:MapEntry},l[n]? =some e→Iz e=k→(l.set n {e with key:=IA k,val:=v}).map Iz=l.map Iz
 |[],n,e,h,_=>by simp at h
 |x::l,0,e,h,hk=>by
  simp only [zac,zn] at h;subst h;simp [Iz,IA] at hk ⊢;exact hk.symm
 |x::l,n+1,e,h,hk=>by
  simp only [zab] at h;simp only [zbm,zG,VC h hk]
theorem RH {k:Key}{v:Value}:∀{l:List MapEntry} {n:Nat} {e:MapEntry},l[n]? =some e→(l.set n {e with key:=IA k,val:=v}).map (·.born)=l.map (·.born)
 |[],n,e,h=>by simp at h
 |x::l,0,e,h=>by
  simp only [zac,zn] at h;subst h;simp
 |x::l,n+1,e,h=>by
  simp only [zab] at h;simp only [zbm,zG,RH (k:=k) h]
def AHr (k:Key)(v:Value)(es:Array MapEntry)(clock:Nat):Obj:=match fnd k es.toList 0 with
 |some (i,_)=>.map (es.modify i λe=>{e with key:=IA k,val:=v}) clock
 |none=>.map (es.push {key:=IA k,val:=v,born:=clock}) (clock+1)
theorem QB {α:Type}{a:Array α}{i:Nat}{f:α→α}{x:α}(h:a.toList[i]? =some x):(a.modify i f).toList=a.toList.set i (f x):=by
 have hlt:i < a.size:=by
  have:=(zaj.1 h).1;simpa using this
 apply List.ext_getElem?
 intro j;simp only [Array.getElem?_toList,Array.getElem?_modify];rw [List.getElem?_set];by_cases e:i=j
 ·subst e;simp only [Array.getElem?_toList] at h;rw [h];simp [hlt]
 ·simp [e]
theorem MapS.put {es:Array MapEntry}{clock:Nat}{m:Key→Option Value}(h:MapS es clock m)(k:Key)(v:Value):∃es' clock',AHr k v es clock= .map es' clock'∧MapS es' clock' (JA m k (some v)):=by
 unfold AHr;cases hf:fnd k es.toList 0 with
 |none=>
  refine ⟨_,_,rfl,?_⟩;have hn:=fnd_none.1 hf;have hl:(es.push {key:=IA k,val:=v,born:=clock}).toList=es.toList++[{key:=IA k,val:=v,born:=clock}]:=by simp
  have hko:Iz {key:=IA k,val:=v,born:=clock}=k:=by simp [Iz,IA]
  refine ⟨λe he=>?_,?_,λe he=>?_,?_,λq=>?_⟩
  ·rw [hl] at he;rcases zav.1 he with he|he
   ·exact h.str e he
   ·simp only [zN] at he;subst he;exact ⟨_,rfl⟩
  ·rw [hl,zM,zbq];refine ⟨h.nod,by simp,λa ha b hb=>?_⟩;simp only [zG,zak,zN,hko] at hb;subst hb;exact λe=>hn (e ▸ ha)
  ·rw [hl] at he;rcases zav.1 he with he|he
   ·have:=h.brn e he;omega
   ·simp only [zN] at he;subst he;simp
  ·rw [hl,zM,zbq];refine ⟨h.bnd,by simp,λa ha b hb=>?_⟩;simp only [zG,zak,zN] at hb;subst hb;obtain ⟨e,he,rfl⟩:=zal.1 ha;have:=h.brn e he;omega
  ·rw [hl,QJ,←h.val q];unfold JA;by_cases e:q=k
   ·subst e;rw [if_pos rfl,h.val q,hf];simp [fnd,hko]
   ·rw [if_neg e];have hf0:fnd q [{key:=IA k,val:=v,born:=clock}] 0=none:=by
     simp only [fnd,hko];rw [if_neg (λe'=>e (Eq.symm e'))]
    rw [hf0];cases m q <;> rfl
 |some p=>
  obtain ⟨i,u⟩:=p;obtain ⟨n,e,h1,h2,h3,h4⟩:=Vg hf;obtain rfl:i=n:=by omega
  refine ⟨_,_,rfl,?_⟩;have hl:=QB (f:=λe=>{e with key:=IA k,val:=v}) h2;refine ⟨λx hx=>?_,?_,λx hx=>?_,?_,λq=>?_⟩
  ·rw [hl] at hx;rcases List.mem_or_eq_of_mem_set hx with hx|rfl
   ·exact h.str x hx
   ·exact ⟨_,rfl⟩
  ·rw [hl,VC h2 h3];exact h.nod
  ·rw [hl] at hx;rcases List.mem_or_eq_of_mem_set hx with hx|rfl
   ·exact h.brn x hx
   ·exact h.brn e (List.mem_of_getElem? h2)
  ·rw [hl,RH (k:=k) h2];exact h.bnd
  ·rw [hl,AAo h2 h3 h.nod,←h.val q];rfl
section rules
variable {I:Imm}{L:LH}{K:Value→M}{b:Nat}{es:Array MapEntry}{clock:Nat}{m:Key→Option Value}{k:Key}{v:Value}{S:M}
def lkV (zero:Value)(ok:Bool):Option Value→Value
 |some u=>if ok then .tuple #[u,.bool true] else u
 |none=>if ok then .tuple #[zero,.bool false] else zero
theorem APj {zero:Value}{ok:Bool}(h:MapS es clock m):(match fnd k es.toList 0 with
  |some (_,u)=>if ok then .tuple #[u,.bool true] else u
  |none=>if ok then .tuple #[zero,.bool false] else zero)=lkV zero ok (m k):=by
 rw [h.val k];cases fnd k es.toList 0 <;> rfl
theorem AKs {zero:Value}{ok:Bool}(ha:MapAt I L b es clock)(h:MapS es clock m):lkR .string zero ok (.map (some b)) (IA k) I L (lkV zero ok (m k)):=
 ⟨es,_,.inr ⟨b,clock,rfl,ha⟩,h.find k,(APj h).symm⟩
theorem lkm {zero:Value}{ok:Bool}[hin:InL b L (.map es clock)](h:MapS es clock m)(hk:K (lkV zero ok (m k)) I L):Rv none (lkR .string zero ok (.map (some b)) (IA k)) K I L:=
 ⟨_,AKs (.inl hin.mem) h,hk⟩
theorem Nr {L':LH}{es':Array MapEntry}{clock':Nat}(h:MapS es clock m)(he:AHr k v es clock= .map es' clock')[u:UpL b L (.map es clock) (.map es' clock') L'](hk:K undef I L'):
  Gs .string (.map (some b)) (IA k) v K I L:=by
 obtain ⟨L1,L2,rfl,rfl⟩:=u.up;refine ⟨b,es,clock,L1,L2,_,rfl,rfl,h.find k,?_⟩;unfold AHr at he;cases hf:fnd k es.toList 0 with
 |none=>rw [hf] at he;simp only at he ⊢;rw [he];exact hk
 |some p=>obtain ⟨i,w⟩:=p;rw [hf] at he;simp only at he ⊢;rw [he];exact hk
theorem AEy (hk:∀b,K (.map (some b)) I ((b,.map #[] 0)::L)):Ub K I L:=hk
end rules
theorem CalV.mono {P:Program}{ω:Om}{x:Value}{args:Array Value}{K K':Value→M}{I:Imm}{L:LH}(h:CalV P ω x args K I L)(hk:∀v I' L',K v I' L'→K' v I' L'):CalV P ω x args K' I L:=by
 match x,h with
 | .func (.func f) first cap,h=>
  simp only [CalV] at h ⊢;by_cases he:CS P f=true
  ·rw [if_pos he] at h ⊢;exact Cal.mono h hk
  ·rw [if_neg he] at h ⊢;cases hx:QO P f with
   |none=>rw [hx] at h;exact h.elim
   |some e=>
    rw [hx] at h;intro w hs;obtain ⟨v,w',I',L',h1,h2,h3⟩:=h w hs;exact ⟨v,w',I',L',h1,h2,hk _ _ _ h3⟩
 | .func (.yield l) first cap,h=>
  intro w hs;obtain ⟨f,tmps,assign,body,h1,h2⟩:=h w hs;exact ⟨f,tmps,assign,body,h1,RoundIn.mono h2 λe w' ⟨v,I',L',e1,e2,e3⟩=>⟨v,I',L',e1,e2,hk _ _ _ e3⟩⟩
section iter
variable {I:Imm}{L0:LH}{K:Value→M}{b r clock:Nat}{es:Array MapEntry}{m:Key→Option Value}{vis:List MapEntry}
end iter
abbrev Fv:=Int
def Eb (k:Fv):Value:=.int .i64 k
def FB (e:MapEntry):Fv:=match e.key with
 | .int _ n=>n
 |_=>0
def EW (k:Fv):List MapEntry→Nat→Option (Nat×Value)
 |[],_=>none
 |e::r,i=>if FB e=k then some (i,e.val) else EW k r (i+1)
def Qu (m:Fv→Option Value)(k:Fv)(v:Option Value):Fv→Option Value:=λq=>if q=k then v else m q
structure MapSi (es:Array MapEntry)(clock:Nat)(m:Fv→Option Value):Prop where
 str:∀e∈es.toList,∃s:Int,e.key= .int .i64 s
 nod:(es.toList.map FB).Nodup
 brn:∀e∈es.toList,e.born < clock
 bnd:(es.toList.map (·.born)).Nodup
 val:∀k,m k=(EW k es.toList 0).map (·.2)
theorem La {k:Fv}:∀{l:List MapEntry} {i:Nat},(∀e∈l,∃s:Int,e.key= .int .i64 s)→Instr.findNow (.int .i64) (Eb k) l i=some (EW k l i)
 |[],_,_=>rfl
 |e::l,i,h=>by
  obtain ⟨s,hs⟩:=h e (zK ..);have ih:=La (k:=k) (l:=l) (i:=i+1) (λx hx=>h x (zH _ hx));simp only [Instr.findNow,EW,FB,hs,Eb,Instr.sameNow,if_true];by_cases hk:s=k
  ·have:(k==s)=true:=by simp [hk]
   rw [this,if_pos hk]
  ·have:(k==s)=false:=by simp;exact λh=>hk h.symm
   rw [this,if_neg hk];exact ih
theorem MapSi.find {es:Array MapEntry}{clock:Nat}{m:Fv→Option Value}(h:MapSi es clock m)(k:Fv):Instr.findNow (.int .i64) (Eb k) es.toList 0=some (EW k es.toList 0):=La h.str
theorem MapSi.empty:MapSi #[] 0 (λ_=>none):=⟨λe h=>by simp at h,by simp,λe h=>by simp at h,by simp,λk=>rfl⟩
theorem fnd_nonei {k:Fv}:∀{l:List MapEntry} {i:Nat},EW k l i=none↔k ∉ l.map FB
 |[],_=>by simp [EW]
 |e::l,i=>by
  simp only [EW,zG,zX,not_or];by_cases h:FB e=k
  ·simp [h]
  ·rw [if_neg h,fnd_nonei (l:=l)];exact ⟨λh'=>⟨λe'=>h e'.symm,h'⟩,λh'=>h'.2⟩
theorem Rx {k:Fv}:∀{l:List MapEntry} {i j:Nat} {v:Value},EW k l i=some (j,v)→∃n e,j=i+n∧l[n]? =some e∧FB e=k∧e.val=v
 |[],_,_,_,h=>by simp [EW] at h
 |e::l,i,j,v,h=>by
  simp only [EW] at h;split at h
  ·rename_i hk
   simp only [zn,zah] at h;exact ⟨0,e,by omega,rfl,hk,h.2⟩
  ·obtain ⟨n,e',h1,h2,h3,h4⟩:=Rx h;exact ⟨n+1,e',by omega,by simpa using h2,h3,h4⟩
theorem Ig {k:Fv}:∀{l:List MapEntry} {i j:Nat},(EW k l i).map (·.2)=(EW k l j).map (·.2)
 |[],_,_=>rfl
 |e::l,i,j=>by
  simp only [EW];split
  ·rfl
  ·exact Ig
theorem NW {k:Fv}:∀{l l':List MapEntry} {i:Nat},(EW k (l++l') i).map (·.2)=match (EW k l i).map (·.2) with
  |some v=>some v
  |none=>(EW k l' 0).map (·.2)
 |[],l',i=>by simp only [zaJ,EW,Option.map_none];exact Ig
 |e::l,l',i=>by
  simp only [zau,EW];split
  ·rfl
  ·exact NW
theorem Vh {k q:Fv}{v:Value}:∀{l:List MapEntry} {n:Nat} {e:MapEntry},l[n]? =some e→FB e=k→(l.map FB).Nodup→
  (EW q (l.set n {e with key:=Eb k,val:=v}) 0).map (·.2)=if q=k then some v else (EW q l 0).map (·.2)
 |[],n,e,h,_,_=>by simp at h
 |x::l,0,e,h,hk,hn=>by
  simp only [zac,zn] at h;subst h;have hko:FB {x with key:=Eb k,val:=v}=k:=by simp [FB,Eb]
  simp only [List.set_cons_zero,EW,hko,hk];by_cases h:k=q
  ·simp [h]
  ·rw [if_neg h,if_neg (λe=>h e.symm),if_neg h]
 |x::l,n+1,e,h,hk,hn=>by
  simp only [zab] at h;simp only [zG,zaX] at hn;simp only [zbm,EW];have hmem:k∈l.map FB:=zal.2 ⟨e,List.mem_of_getElem? h,hk⟩;by_cases hx:FB x=q
  ·rw [if_pos hx,if_pos hx,if_neg];intro e';rw [hx,e'] at hn;exact hn.1 hmem
  ·rw [if_neg hx,if_neg hx];have ih:=Vh (q:=q) (v:=v) h hk hn.2;rw [Ig (j:=0),ih,Ig (i:=0+1) (j:=0)]
theorem RG {k:Fv}{v:Value}:∀{l:List MapEntry} {n:Nat} {e:MapEntry},l[n]? =some e→FB e=k→(l.set n {e with key:=Eb k,val:=v}).map FB=l.map FB
 |[],n,e,h,_=>by simp at h
 |x::l,0,e,h,hk=>by
  simp only [zac,zn] at h;subst h;simp [FB,Eb] at hk ⊢;exact hk.symm
 |x::l,n+1,e,h,hk=>by
  simp only [zab] at h;simp only [zbm,zG,RG h hk]
theorem PS {k:Fv}{v:Value}:∀{l:List MapEntry} {n:Nat} {e:MapEntry},l[n]? =some e→(l.set n {e with key:=Eb k,val:=v}).map (·.born)=l.map (·.born)
 |[],n,e,h=>by simp at h
 |x::l,0,e,h=>by
  simp only [zac,zn] at h;subst h;simp
 |x::l,n+1,e,h=>by
  simp only [zab] at h;simp only [zbm,zG,PS (k:=k) h]
def AAa (k:Fv)(v:Value)(es:Array MapEntry)(clock:Nat):Obj:=match EW k es.toList 0 with
 |some (i,_)=>.map (es.modify i λe=>{e with key:=Eb k,val:=v}) clock
 |none=>.map (es.push {key:=Eb k,val:=v,born:=clock}) (clock+1)
theorem MapSi.put {es:Array MapEntry}{clock:Nat}{m:Fv→Option Value}(h:MapSi es clock m)(k:Fv)(v:Value):∃es' clock',AAa k v es clock= .map es' clock'∧MapSi es' clock' (Qu m k (some v)):=by
 unfold AAa;cases hf:EW k es.toList 0 with
 |none=>
  refine ⟨_,_,rfl,?_⟩;have hn:=fnd_nonei.1 hf;have hl:(es.push {key:=Eb k,val:=v,born:=clock}).toList=es.toList++[{key:=Eb k,val:=v,born:=clock}]:=by simp
  have hko:FB {key:=Eb k,val:=v,born:=clock}=k:=by simp [FB,Eb]
  refine ⟨λe he=>?_,?_,λe he=>?_,?_,λq=>?_⟩
  ·rw [hl] at he;rcases zav.1 he with he|he
   ·exact h.str e he
   ·simp only [zN] at he;subst he;exact ⟨_,rfl⟩
  ·rw [hl,zM,zbq];refine ⟨h.nod,by simp,λa ha b hb=>?_⟩;simp only [zG,zak,zN,hko] at hb;subst hb;exact λe=>hn (e ▸ ha)
  ·rw [hl] at he;rcases zav.1 he with he|he
   ·have:=h.brn e he;omega
   ·simp only [zN] at he;subst he;simp
  ·rw [hl,zM,zbq];refine ⟨h.bnd,by simp,λa ha b hb=>?_⟩;simp only [zG,zak,zN] at hb;subst hb;obtain ⟨e,he,rfl⟩:=zal.1 ha;have:=h.brn e he;omega
  ·rw [hl,NW,←h.val q];unfold Qu;by_cases e:q=k
   ·subst e;rw [if_pos rfl,h.val q,hf];simp [EW,hko]
   ·rw [if_neg e];have hf0:EW q [{key:=Eb k,val:=v,born:=clock}] 0=none:=by
     simp only [EW,hko];rw [if_neg (λe'=>e (Eq.symm e'))]
    rw [hf0];cases m q <;> rfl
 |some p=>
  obtain ⟨i,u⟩:=p;obtain ⟨n,e,h1,h2,h3,h4⟩:=Rx hf;obtain rfl:i=n:=by omega
  refine ⟨_,_,rfl,?_⟩;have hl:=QB (f:=λe=>{e with key:=Eb k,val:=v}) h2;refine ⟨λx hx=>?_,?_,λx hx=>?_,?_,λq=>?_⟩
  ·rw [hl] at hx;rcases List.mem_or_eq_of_mem_set hx with hx|rfl
   ·exact h.str x hx
   ·exact ⟨_,rfl⟩
  ·rw [hl,RG h2 h3];exact h.nod
  ·rw [hl] at hx;rcases List.mem_or_eq_of_mem_set hx with hx|rfl
   ·exact h.brn x hx
   ·exact h.brn e (List.mem_of_getElem? h2)
  ·rw [hl,PS (k:=k) h2];exact h.bnd
  ·rw [hl,Vh h2 h3 h.nod,←h.val q];rfl
section rules
variable {I:Imm}{L:LH}{K:Value→M}{b:Nat}{es:Array MapEntry}{clock:Nat}{m:Fv→Option Value}{k:Fv}{v:Value}{S:M}
theorem AMB {zero:Value}{ok:Bool}(h:MapSi es clock m):(match EW k es.toList 0 with
  |some (_,u)=>if ok then .tuple #[u,.bool true] else u
  |none=>if ok then .tuple #[zero,.bool false] else zero)=lkV zero ok (m k):=by
 rw [h.val k];cases EW k es.toList 0 <;> rfl
theorem AMC {zero:Value}{ok:Bool}(ha:MapAt I L b es clock)(h:MapSi es clock m):lkR (.int .i64) zero ok (.map (some b)) (Eb k) I L (lkV zero ok (m k)):=
 ⟨es,_,.inr ⟨b,clock,rfl,ha⟩,h.find k,(AMB h).symm⟩
theorem AQp {zero:Value}{ok:Bool}[hin:InL b L (.map es clock)](h:MapSi es clock m)(hk:K (lkV zero ok (m k)) I L):Rv none (lkR (.int .i64) zero ok (.map (some b)) (Eb k)) K I L:=
 ⟨_,AMC (.inl hin.mem) h,hk⟩
theorem AEg {L':LH}{es':Array MapEntry}{clock':Nat}(h:MapSi es clock m)(he:AAa k v es clock= .map es' clock')[u:UpL b L (.map es clock) (.map es' clock') L'](hk:K undef I L'):
  Gs (.int .i64) (.map (some b)) (Eb k) v K I L:=by
 obtain ⟨L1,L2,rfl,rfl⟩:=u.up;refine ⟨b,es,clock,L1,L2,_,rfl,rfl,h.find k,?_⟩;unfold AAa at he;cases hf:EW k es.toList 0 with
 |none=>rw [hf] at he;simp only at he ⊢;rw [he];exact hk
 |some p=>obtain ⟨i,w⟩:=p;rw [hf] at he;simp only at he ⊢;rw [he];exact hk
end rules
section iter
variable {I:Imm}{L0:LH}{K:Value→M}{b r clock:Nat}{es:Array MapEntry}{m:Fv→Option Value}{vis:List MapEntry}
end iter
end Go.SL
namespace Go.Proofs.YthkaekjoemhjaaaGreatDoor
open Go.SL
class Foc (b:Nat) (L:LH) (o:outParam Obj) (C:outParam (Obj→LH)):Prop where
 foc:∃L1 L2,L=L1++(b,o)::L2∧C=λo'=>L1++(b,o')::L2
instance focRight (b:Nat)(A L:LH)(o:Obj)(C:Obj→LH)[h:Foc b L o C]:Foc b (A++L) o (λo'=>A++C o'):=by
 obtain ⟨L1,L2,rfl,rfl⟩:=h.foc;exact ⟨A++L1,L2,by simp,by simp⟩
instance focThere (b:Nat)(x:Nat×Obj)(L:LH)(o:Obj)(C:Obj→LH)[h:Foc b L o C]:Foc b (x::L) o (λo'=>x::C o'):=by
 obtain ⟨L1,L2,rfl,rfl⟩:=h.foc;exact ⟨x::L1,L2,rfl,rfl⟩
instance focHere (b:Nat)(L:LH)(o:Obj):Foc b ((b,o)::L) o (λo'=>(b,o')::L):=⟨[],L,rfl,rfl⟩
instance (priority:=95) lsubCC (L L':LH)(y:Nat×Obj)[h:LSub L L']:LSub (y::L) (y::L'):=⟨λx hx=>by
 rcases zX.1 hx with rfl|hx
 ·exact zK ..
 ·exact zH _ (h.sub x hx)⟩
instance (priority:=95) lsubAA (A L L':LH)[h:LSub L L']:LSub (A++L) (A++L'):=⟨λx hx=>by
 rcases zav.1 hx with hx|hx
 ·exact zae _ hx
 ·exact zam _ (h.sub x hx)⟩
instance delApp (b:Nat)(A L X:LH)[h:DelB b L X]:DelB b (A++L) (A++X):=⟨λx hx=>by
 rcases zav.1 hx with hx|hx
 ·exact zae _ hx
 ·exact zam _ (h.sub x hx)⟩
theorem Bl {I:Imm}{L X:LH}{B:M→M}{b:Nat}[h:DelB b L X](hB:B (Stay I X) I L):CO B I L:=draw _ ⟨zAC I,h.sub⟩ hB
section
variable {α:Type}{R:Imm→α→List Value→Prop}{I:Imm}{L:LH}{K:Value→M}
theorem RX {R:α→List Value→Prop}{n:Nat}:∀{xs:List α} {cs:List (List Value)},(∀c∈cs,c.length=n)→xs.length=cs.length→(∀p∈xs.zip cs,R p.1 p.2)→Recs R n xs cs.flatten
 |[],[],_,_,_=>rfl
 |x::xs,c::cs,h1,h2,h3=>by
  have hc:=h1 c (zK ..);rw [zbr];exact Recs.append (Recs.one hc (h3 (x,c) (zK ..))) (RX (λd hd=>h1 d (zH _ hd)) (by simpa using h2) (λp hp=>h3 p (zH _ hp)))
theorem Eu {T n len:Nat}{z:Array Value}{parts:List (Nat×Value)}(xs:List α)(cs:List (List Value))(hp:parts=Wq 0 (cs.map λc=>.agg c.toArray))(hl:cs.length=len)(hx:xs.length=cs.length)(hn:∀c∈cs,c.length=n)
  (hR:∀p∈xs.zip cs,R I p.1 p.2) (hm:∀{I I':Imm} {x:α} {c:List Value},Ext I I'→R I x c→R I' x c)
  (hk:∀I' a,Ext I I'→RL R n I' [] (.slice a len len) xs→Gh (K (.slice a len len)) I' L):AB T n z len parts (gh K) I L:=by
 refine Lr (cs.map λc=>.agg c.toArray) hp (by simp [hl]) (by simp only [zal];rintro v ⟨c,hc,rfl⟩;simpa [Value.cells] using hn c hc) (λI' a hI hS=>hk I' a hI ?_);subst hl;rw [←hx] at hS ⊢;refine RL.ofI hS ?_;have:(cs.map λc=>Value.agg c.toArray).flatMap (·.cells.toList)=cs.flatten:=by
  clear hS hp hn hR hx hk;induction cs with
  |nil=>rfl
  |cons c cs ih=>
   rw [zG,zbh,zbr,ih];rfl
 rw [this];exact RX hn hx λp hp=>hm hI (hR p hp)
theorem Di {T len:Nat}{z:Array Value}{parts:List (Nat×Value)}(xs:List Bs)(hp:parts=Wq 0 (xs.map λc=>.string ⟨c.toArray⟩))(hl:xs.length=len)
  (hk:∀I' a,Ext I I'→StL I' (.slice a len len) xs→Gh (K (.slice a len len)) I' L):AB T 1 z len parts (gh K) I L:=by
 refine Lr (n:=1) (xs.map λc=>.string ⟨c.toArray⟩) hp (by simp [hl]) (by simp only [zal];rintro v ⟨c,hc,rfl⟩;rfl) (λI' a hI hS=>hk I' a hI ?_);subst hl;refine RL.ofI hS ?_;clear hS hp hk;induction xs with
 |nil=>rfl
 |cons c cs ih=>exact ⟨rfl,rfl,ih⟩
end
def TokV (_:Imm)(t:Tok)(c:List Value):Prop:=c=[.int .i64 t.kind,.int .i64 t.at',.string ⟨t.text.toArray⟩,.int .i64 t.num]
theorem TokV.mono {I I':Imm}{t:Tok}{c:List Value}(h:TokV I t c):TokV I' t c:=h
abbrev TL (I:Imm)(v:Value)(l:List Tok):Prop:=RL TokV 4 I [] v l
theorem TL.mono {I I':Imm}{v:Value}{l:List Tok}(h:TL I v l)(hI:Ext I I'):TL I' v l:=zAL (λ_ _ h=>TokV.mono h) h hI (λ_ h=>h)
def AAx (t:Tok):Prop:=t.kind≠6∧(t.kind=2→t.text∈wordsL)∧(t.kind=5→t.text∈signsL)∧(t.kind=3→0≤t.num∧t.num≤9223372036854775807)
def Toks:List Tok→Prop
 |[]=>False
 |[t]=>t.kind=6
 |t::u::l=>AAx t∧Toks (u::l)
theorem Toks.ne {l:List Tok}(h:Toks l):∃t r,l=t::r:=by
 match l,h with
 |t::r,_=>exact ⟨t,r,rfl⟩
theorem Toks.tail {l:List Tok}(h:Toks l)(hk:(hd l).kind≠6):Toks l.tail:=by
 match l,h with
 |[t],h=>exact absurd h hk
 |t::u::r,h=>exact h.2
theorem AFO {l:List Tok}{s:Bs}(h:isT l s=true):(hd l).kind≠6:=by
 simp only [isT,zF,zaW,beq_iff_eq] at h;rcases h.1 with h|h <;> omega
theorem Toks.tailT {l:List Tok}{s:Bs}(h:Toks l)(hs:isT l s=true):Toks l.tail:=h.tail (AFO hs)
theorem AFP {l:List Tok}{k:Int}(h:isK l k=true):(hd l).kind=k:=by simpa [isK] using h
theorem Toks.tailK {l:List Tok}{k:Int}(h:Toks l)(hs:isK l k=true)(hk:k≠6:=by decide):Toks l.tail:=h.tail (by rw [AFP hs];exact hk)
theorem Toks.len {l:List Tok}(h:Toks l):l.tail.length+1=l.length:=by
 obtain ⟨t,r,rfl⟩:=h.ne;rfl
abbrev PBo (v:Value):Obj:=.cells [v].toArray 245 (0,0)
def FD (e:Nat):Value:=.iface 241 (.agg #[.int .i64 e])
abbrev Ac (b:Nat):Value:=.pointer (some ⟨b,0,none⟩)
abbrev POk {α:Type}(g:Res α)(V:Imm→α→Value→Prop)(n:Nat)(K:Value→M)(C:Obj→LH)(I:Imm):Prop:=
 ∀x r,g= .ok x r→Toks r→r.length≤n→∀I' v' c,Ext I I'→TL I' v' r→V I' x c→K c I' (C (PBo v'))
abbrev PEr {α:Type}(g:Res α)(Pn:Value→M)(C:Obj→LH)(I:Imm):Prop:=∀e,g= .err e→∀I' v',Ext I I'→Pn (FD e) I' (C (PBo v'))
section
variable {ω:Om}{I:Imm}{L:LH}{K Pn:Value→M}{C:Obj→LH}{b:Nat}{v:Value}{l:List Tok}
theorem TL.hd (h:TL I v l)(hT:Toks l):∃bt off,ixV 4 v (.int .i64 0)=some (.pointer (some ⟨bt,off,none⟩))∧∀I' L',Ext I I'→Cells I' L' bt off [.int .i64 (hd l).kind,.int .i64 (hd l).at',.string ⟨(hd l).text.toArray⟩,.int .i64 (hd l).num]:=by
 obtain ⟨t,r,rfl⟩:=hT.ne;obtain ⟨bt,off,c,h1,_,h2,h3⟩:=RL.ix h (i:=0) zo zy;refine ⟨bt,off,h1,λI' L' hI=>?_⟩;have:QG (t::r) 0=t:=rfl;rw [this] at h2;rw [show c=_ from h2] at h3;exact h3 I' L' hI (λ_ h=>by cases h)
theorem TL.tl (h:TL I v l)(hT:Toks l):∃v',Cb 4 v (some (.int .i64 1)) none none=some v'∧v'.oneCell'=true∧TL I v' l.tail:=by
 obtain ⟨t,r,rfl⟩:=hT.ne;obtain ⟨v',h1,h2⟩:=RL.part h (lo:=1) (hi:=(t::r).length) zy (zt _) (some (.int .i64 1)) none (by simp [DL];omega) (λcap hc=>by simp [DL]);refine ⟨v',h1,?_,by simpa using h2⟩;obtain ⟨a,c,rfl⟩:=h2.form;rfl
theorem Ia (s:Bs)[hF:Foc b L (PBo v) C](h:TL I v l)(hT:Toks l)(ht:isT l s=true→K (.bool true) I L)(hf:isT l s=false→K (.bool false) I L):CT ω 154 #[Ac b,.string ⟨s.toArray⟩] K I L:=by
 obtain ⟨L1,L2,rfl,rfl⟩:=hF.foc;obtain ⟨bt,off,h1,h2⟩:=h.hd hT;refine AOA ?_;unfold AKM;have hk:∀{x:Bool} {L':LH},(isT l s=x)→SubP (L1++(b,PBo v)::L2) L'→Gh (K (.bool x)) I L':=by
  intro x L' hx hs;refine zAG (L1++(b,PBo v)::L2) (zAA ?_);cases x
  ·exact hf hx
  ·exact ht hx
 simp only [PBo];repeat' (first|refine zqa ?_|refine zqh (λ_=>?_)|(refine Tz (h2 _ [] (zAC _)) (zAC _) rfl ?_)|refine zqr ?_|refine zqb ?_|refine zqi ?_ ?_|refine zqc ?_|refine zqg (λ_=>?_) (λ_=>?_)|(simp only [SSd,Nat.reduceAdd,h1]))
 all_goals (first|exact hk (by simp_all [isT]) inferInstance|skip)
theorem Ae [hF:Foc b L (PBo v) C](h:TL I v l)(hT:Toks l)(hp:Pn (FD (hd l).at') I L):CalP Tryz.prog ω 155 #[Ac b] K Pn I L:=by
 obtain ⟨L1,L2,rfl,rfl⟩:=hF.foc;obtain ⟨bt,off,h1,h2⟩:=h.hd hT;refine ANz ?_;unfold AKL;have hp:Gh (Pn (FD (hd l).at')) I (L1++(b,PBo v)::L2):=zAA hp;simp only [PBo] at hp ⊢;repeat' (first|refine zqa ?_|refine zqh (λ_=>?_)|(refine rd1 ((h2 _ [] (zAC _) 1 _ rfl).mono (zAC _) (λ_ h=>by cases h)) ?_)|refine zqr ?_|refine zqb ?_|refine zqi ?_ ?_|refine zqc ?_|refine zqg (λ_=>?_) (λ_=>?_)|(simp only [SSd,Nat.reduceAdd,h1]))
 exact hp
theorem Hq [hF:Foc b L (PBo v) C](h:TL I v l)(hT:Toks l)(hk:∀v',TL I v' l.tail→K (.agg #[.int .i64 (hd l).kind,.int .i64 (hd l).at',.string ⟨(hd l).text.toArray⟩,.int .i64 (hd l).num]) I (C (PBo v'))):
  CT ω 185 #[Ac b] K I L:=by
 obtain ⟨L1,L2,rfl,rfl⟩:=hF.foc;obtain ⟨bt,off,h1,h2⟩:=h.hd hT;obtain ⟨v',h3,h4,h5⟩:=h.tl hT;have hk:Gh (K (.agg #[.int .i64 (hd l).kind,.int .i64 (hd l).at',.string ⟨(hd l).text.toArray⟩,.int .i64 (hd l).num])) I (L1++(b,PBo v')::L2):=zAA (hk v' h5);refine ANt ?_;unfold AKF;simp only [PBo] at hk ⊢;repeat' (first|refine zqa ?_|refine zqh (λ_=>?_)|(refine Tz (h2 _ [] (zAC _)) (zAC _) rfl ?_)|((with_reducible refine st1 ?_ ?_);exact h4)|refine zqr ?_|refine zqb ?_|refine zqi ?_ ?_|refine zqc ?_|refine zqg (λ_=>?_) (λ_=>?_)|(simp only [SSd,Nat.reduceAdd,h1,h3]))
 exact zAG _ hk
end
section
variable {ω:Om}{I:Imm}{L:LH}{K Pn:Value→M}{C:Obj→LH}{b:Nat}{v:Value}{l:List Tok}
theorem EZ (s:Bs)[hF:Foc b L (PBo v) C](h:TL I v l)(hT:Toks l)(ht:isT l s=true→∀v',TL I v' l.tail→K (.bool true) I (C (PBo v')))(hf:isT l s=false→K (.bool false) I L):CT ω 152 #[Ac b,.string ⟨s.toArray⟩] K I L:=by
 refine AOC ?_;unfold AKN;refine call (Ia s h hT (λhb=>?_) (λhb=>?_))
 ·try refine zqe ?_
  exact call (Hq h hT (λv' hv=>zAA (ht hb v' hv)))
 ·try refine zqe ?_
  exact zAA (hf hb)
def FI:List Bs→Pr Unit
 |[],l=>.ok () l
 |s::ss,l=>(AC s l).bind λ_ r=>FI ss r
theorem Qs (ws:List Bs){w:Value}(hw:StL I w ws)(hws:ws.length < 1000)[hF:Foc b L (PBo v) C](h:TL I v l)(hT:Toks l)
  (hok:∀r,FI ws l= .ok () r→Toks r→r.length≤l.length→∀v',TL I v' r→K (.tuple #[]) I (C (PBo v'))) (herr:∀e,FI ws l= .err e→∀v',Pn (FD e) I (C (PBo v'))):
  CalP Tryz.prog ω 187 #[Ac b,w] K Pn I L:=by
 obtain ⟨L1,L2,rfl,rfl⟩:=hF.foc;refine ANr ?_;unfold AKD;simp only [zAQ hw,SSd,Nat.reduceAdd];refine loop (λm s I' L'=>∃(k:Nat) (v':Value) (l':List Tok),k+m=ws.length∧s=(.int .i64 k,())∧I'=I∧L'=L1++(b,PBo v')::L2∧FI ws l=FI (ws.drop k) l'∧Toks l'∧l'.length≤l.length∧TL I v' l') ws.length ⟨0,v,l,by omega,rfl,rfl,rfl,rfl,hT,zt _,h⟩ ?_;rintro m s I' L' ⟨k,v',l',hkm,rfl,rfl,rfl,hg,hT',hlen,hTL⟩;unfold ZR;try refine zqe ?_
 refine AP (λhlt=>?_) (λhlt=>?_)
 ·simp at hlt;have hlt:k < ws.length:=by omega
  obtain ⟨bw,off,c,h1,_,h2,h3⟩:=RL.ix hw (i:=k) zo zo;rw [BH hlt] at h2;obtain rfl:=h2;have hdr:ws.drop k=ws[k]::ws.drop (k+1):=zaz hlt;rw [hdr] at hg;simp only [h1,SSd,Nat.reduceAdd];refine rd1 ((h3 _ [] (zAC _) (λ_ h=>h) 0 _ rfl).mono (zAC _) (λ_ h=>by cases h)) ?_;refine Ai (EZ ws[k] hTL hT' (λhb v2 hv2=>?_) (λhb=>?_))
  ·try refine zqe ?_
   unfold TY;simp only [SSd,Nat.reduceAdd,wrap_i64 ((k:Int)+1) zo];refine zAA ⟨m - 1,by omega,k+1,v2,l'.tail,by omega,rfl,rfl,rfl,?_,hT'.tailT hb,?_,hv2⟩
   ·rw [hg];simp only [FI,AC,hb,if_true,Res.bind]
   ·have:=hT'.len;omega
  ·try refine zqe ?_
   refine AU (Ae hTL hT' (zAA (herr _ ?_ v')));rw [hg];simp [FI,AC,hb,Res.bind,bad]
 ·simp at hlt;have:ws.drop k=[]:=zat zo;rw [this] at hg;exact zAA (hok l' hg hT' hlen v' hTL)
abbrev AQm (t:Tok):Value:=.agg #[.int .i64 t.kind,.int .i64 t.at',.string ⟨t.text.toArray⟩,.int .i64 t.num]
theorem UE (k:Int)(hk6:k≠6)[hF:Foc b L (PBo v) C](h:TL I v l)(hT:Toks l)
  (hok:isK l k=true→∀v',TL I v' l.tail→K (AQm (hd l)) I (C (PBo v'))) (herr:isK l k=false→Pn (FD (hd l).at') I L):
  CalP Tryz.prog ω 231 #[Ac b,.int .i64 k] K Pn I L:=by
 obtain ⟨L1,L2,rfl,rfl⟩:=hF.foc;obtain ⟨bt,off,h1,h2⟩:=h.hd hT;refine ANL ?_;unfold AJe;repeat' (first|refine zqa ?_|refine zqh (λ_=>?_)|(refine rd1 ((h2 _ [] (zAC _) 0 _ rfl).mono (zAC _) (λ_ h=>by cases h)) ?_)|refine zqr ?_|refine zqb ?_|refine zqi ?_ ?_|refine zqc ?_|refine zqg (λ_=>?_) (λ_=>?_)|(simp only [SSd,Nat.reduceAdd,h1]))
 ·rename_i hb
  refine AU (Ae h hT (zAG (L1++(b,PBo v)::L2) (zAA (herr ?_))));simpa [isK] using hb
 ·rename_i hb
  have hb:isK l k=true:=by simpa [isK] using hb
  unfold TM;refine Ai (Hq h hT (λv' hv'=>?_));repeat' (first|refine zqa ?_|refine zqh (λ_=>?_)|refine zqr ?_|refine zqb ?_|refine zqi ?_ ?_|refine zqc ?_|refine zqg (λ_=>?_) (λ_=>?_)|refine zqe ?_|fail)
  exact zAG (L1++(b,PBo v')::L2) (zAA (hok hb v' hv'))
theorem ABs [hF:Foc b L (PBo v) C](h:TL I v l)(hT:Toks l)
  (hok:isK l 1=true→∀v',TL I v' l.tail→K (.string ⟨(hd l).text.toArray⟩) I (C (PBo v'))) (herr:isK l 1=false→Pn (FD (hd l).at') I L):
  CalP Tryz.prog ω 188 #[Ac b] K Pn I L:=by
 refine ANq ?_;unfold AKC;refine AU (UE 1 zx h hT (λhb v' hv'=>?_) (λhb=>zAA (herr hb)));try refine zqe ?_
 exact zAA (hok hb v' hv')
end
theorem FY {p:UInt8→Bool}(h:(List.range 256).all (λn=>p (UInt8.ofNat n))=true)(c:UInt8):p c=true:=by
 have:=zaD.1 h c.toNat (zaO.2 c.toNat_lt);simpa using this
theorem ixS (s:Bs){a:Nat}{c:UInt8}(h:s[a]? =some c):Fq (.string ⟨s.toArray⟩) (.int .i64 (a:Nat))=some (.int .u8 c.toNat):=by
 obtain ⟨hlt,rfl⟩:=zaj.1 h;have:(⟨s.toArray⟩:ByteArray)[a]? =some s[a]:=by
  rw [getElem?_pos _ _ (by simpa [ByteArray.size] using hlt)];rfl
 simp [Fq,this]
theorem KX (s:Bs)(a b:Nat):(⟨s.toArray⟩:ByteArray).extract a b=⟨((s.drop a).take (b - a)).toArray⟩:=by
 apply ByteArray.ext
 simp [ByteArray.data_extract]
theorem slS (s:Bs){a b:Nat}(h1:a≤b)(h2:b≤s.length):EM (.string ⟨s.toArray⟩) (some (.int .i64 (a:Nat))) (some (.int .i64 (b:Nat)))=some (.string ⟨((s.drop a).take (b - a)).toArray⟩):=by
 have hs:(⟨s.toArray⟩:ByteArray).size=s.length:=rfl;simp [EM,DL,hs,h1,h2,KX]
theorem ALe (s:Bs){b:Nat}(h2:b≤s.length):EM (.string ⟨s.toArray⟩) none (some (.int .i64 (b:Nat)))=some (.string ⟨(s.take b).toArray⟩):=by
 have hs:(⟨s.toArray⟩:ByteArray).size=s.length:=rfl;simp [EM,DL,hs,h2,KX]
theorem ABS (s:Bs){a:Nat}(h1:a≤s.length):EM (.string ⟨s.toArray⟩) (some (.int .i64 (a:Nat))) none=some (.string ⟨(s.drop a).toArray⟩):=by
 have hs:(⟨s.toArray⟩:ByteArray).size=s.length:=rfl;have:List.take (s.length - a) (s.drop a)=s.drop a:=zY zy;simp [EM,DL,hs,h1,KX,this]
section
variable {ω:Om}{I:Imm}{L:LH}{K Pn:Value→M}
theorem JP (c:UInt8)(hk:K (.bool (DJ c)) I L):CT ω 214 #[.int .u8 c.toNat] K I L:=by
 refine ANe ?_;unfold AJr;have ht:=FY (p:=λc=>(DJ c==(((c.toNat:Int)==95)||(decide (97≤ES .or .u8 c.toNat 32)&&decide (ES .or .u8 c.toNat 32≤122))))) zq c;have ht:=eq_of_beq ht;rw [ht] at hk;repeat' (first|refine zqa ?_|refine zqh (λ_=>?_)|refine zqr ?_|refine zqb ?_|refine zqi ?_ ?_|refine zqc ?_|refine zqg (λ_=>?_) (λ_=>?_)|refine zqe ?_|fail)
 all_goals (refine zAA ?_;simp_all)
theorem KO (c:UInt8)(hk:K (.bool (Bi c)) I L):CT ω 219 #[.int .u8 c.toNat] K I L:=by
 refine ANZ ?_;unfold AJn;have ht:=FY (p:=λc=>(Bi c==(decide ((48:Int)≤c.toNat)&&decide ((c.toNat:Int)≤57)))) zq c;have ht:=eq_of_beq ht;rw [ht] at hk;repeat' (first|refine zqa ?_|refine zqh (λ_=>?_)|refine zqr ?_|refine zqb ?_|refine zqi ?_ ?_|refine zqc ?_|refine zqg (λ_=>?_) (λ_=>?_)|refine zqe ?_|fail)
 all_goals (refine zAA ?_;simp_all)
def Gq (l:Bs)(c:UInt8):Int:=match l.findIdx? (·==c) with
 |some i=>i
 |none=> -1
theorem UW (l:Bs)(i:Nat)(h:i < l.length):(⟨l.toArray⟩:ByteArray)[i]! =l[i]:=by
 rw [getElem!_pos _ _ (by simpa [ByteArray.size] using h)];rfl
theorem Vl (l:Bs)(c:UInt8):(List.range (⟨l.toArray⟩:ByteArray).size).find? (λi=>(⟨l.toArray⟩:ByteArray)[i]! ==c)=l.findIdx? (·==c):=by
 have hs:(⟨l.toArray⟩:ByteArray).size=l.length:=rfl;cases h:l.findIdx? (·==c) with
 |none=>
  rw [List.find?_eq_none];intro i hi;rw [hs,zaO] at hi;rw [UW _ _ hi];have:=List.findIdx?_eq_none_iff.1 h l[i] (zaG hi);simpa using this
 |some i=>
  obtain ⟨hi,h1,h2⟩:=List.findIdx?_eq_some_iff_getElem.1 h;rw [List.find?_range_eq_some];refine ⟨by rw [UW _ _ hi];exact h1,by rw [hs];simpa using hi,λj hj=>?_⟩;rw [UW _ _ zo];have:=h2 j hj;simpa using this
theorem GZ (l:Bs)(c:UInt8)(hk:K (.int .i64 (Gq l c)) I L):CT ω 120 #[.string ⟨l.toArray⟩,.int .u8 c.toNat] K I L:=by
 refine AOQ ?_;unfold AKb;refine call ?_;refine AOH ?_;unfold AKS;refine ExtE.ret ⟨_,λw hs=>?_,zAA (zAA (zAA hk))⟩;show Sem.run _ (do
  let b ←Extern.Bytes.bytesOf (.string ⟨l.toArray⟩)
  let c ←Extern.Bytes.asByte (.int .u8 c.toNat)
  match (List.range b.size).find? λi=>b[i]! ==c with
  |some i=>pure (goInt i)
  |none=>pure (goInt (-1))) w=_
 have hc:((c.toNat:Int).toNat).toUInt8=c:=by simp
 simp only [Sem.run_bind,Extern.Bytes.bytesOf,Result.andThen_ok,Extern.Bytes.asByte,Sem.run_pure,hc,Vl];unfold Gq;cases l.findIdx? (·==c) <;> rfl
end
abbrev LBo (s:Bs)(a:Nat)(w:Value):Obj:=.cells [.string ⟨s.toArray⟩,.int .i64 (a:Nat),w].toArray 266 (0,0)
theorem RD:∀l:Bs,CY true l=match l.findIdx? (·==10) with
  |some n=>CY false (l.drop n)
  |none=>[]
 |[]=>rfl
 |c::r=>by
  have ih:=RD r;simp only [CY,List.findIdx?_cons];by_cases hc:(c==10)=true
  ·have hc':c=10:=by simpa using hc
   subst hc';simp [CY,Rq]
  ·simp only [hc,zl,if_false];rw [ih];cases r.findIdx? (·==10) <;> rfl
def AQa:Bs:=[9,10,12,13,32]
theorem AIe (c:UInt8):decide ((0:Int)≤Gq AQa c)=Rq c:=by
 have:=FY (p:=λc=>(decide ((0:Int)≤Gq AQa c)==Rq c)) zq c;exact eq_of_beq this
theorem JR {ω:Om}{I:Imm}{L:LH}{K:Value→M}(s p:Bs)(hs:s.length≤1000000000)(hp:p.length≤1000000000)(hk:K (.bool (p.isPrefixOf s)) I L):CT ω 213 #[.string ⟨s.toArray⟩,.string ⟨p.toArray⟩] K I L:=by
 refine ANf ?_;unfold AJs;refine call ?_;refine ANE ?_;unfold AJY;have hk':Gh (Gh (K (.bool (p.isPrefixOf s)))) I L:=zAA (zAA hk);try refine zqe ?_
 refine BZ (λhb=>?_) (λhb=>?_)
 ·have hb:p.length≤s.length:=by simpa using hb
  simp only [ALe s hb,SSd,Nat.reduceAdd];have:(s.take p.length==p)=p.isPrefixOf s:=by
   rw [Bool.eq_iff_iff];simp only [beq_iff_eq,zbe];constructor
   ·intro e;rw [←e];exact List.take_prefix _ _
   ·intro e;exact (List.prefix_iff_eq_take.1 e).symm
  rw [this];exact hk'
 ·have hb:¬p.length≤s.length:=by simpa using hb
  have:p.isPrefixOf s=false:=by
   cases h:p.isPrefixOf s with
   |false=>rfl
   |true=>exact absurd (zbe.1 h).length_le hb
  rw [this] at hk';exact hk'
section
variable {ω:Om}{I:Imm}{L:LH}{K:Value→M}{C:Obj→LH}{b:Nat}{w:Value}{s:Bs}{a:Nat}
theorem QP {s:Bs}{a:Nat}(h:a < s.length):∃c,s[a]? =some c∧s.drop a=c::s.drop (a+1):=⟨s[a],zao h,zaz h⟩
theorem RY [hF:Foc b L (LBo s a w) C](ha:a≤s.length)(hs:s.length≤900000000)(hk:∀a',a≤a'→a'≤s.length→s.drop a'=CY false (s.drop a)→K (.tuple #[]) I (C (LBo s a' w))):CT ω 183 #[Ac b] K I L:=by
 obtain ⟨L1,L2,rfl,rfl⟩:=hF.foc;refine ANv ?_;unfold AKH;refine loop (λm _ I2 Lx=>∃a2,a≤a2∧a2+m=s.length∧I2=I∧Lx=L1++(b,LBo s a2 w)::L2∧CY false (s.drop a2)=CY false (s.drop a)) (s.length - a) ⟨a,zt _,by omega,rfl,rfl,rfl⟩ ?_;rintro m _ I2 Lx ⟨a2,h1,h2,rfl,rfl,hm⟩;unfold ZW;repeat' (first|refine zqa ?_|refine zqh (λ_=>?_)|refine zqr ?_|refine zqb ?_|refine zqi ?_ ?_|refine zqc ?_|refine zqg (λ_=>?_) (λ_=>?_)|refine zqe ?_|fail)
 ·rename_i hb
  have hb:a2 < s.length:=by simpa using hb
  obtain ⟨c,hc,hd⟩:=QP hb;simp only [ixS s hc,SSd,Nat.reduceAdd];refine call (GZ [9,10,12,13,32] c ?_);have hbi:decide ((0:Int)≤Gq [9,10,12,13,32] c)=Rq c:=AIe c;simp only [hbi,SSd,Nat.reduceAdd];refine AP (λhbl=>?_) (λhbl=>?_)
  ·refine rdb ?_;simp only [wrap_i64 ((a2:Int)+1) zo,SSd,Nat.reduceAdd];refine st1 rfl ?_;refine zAA ⟨m - 1,by omega,a2+1,by omega,by omega,rfl,rfl,?_⟩;rw [←hm,hd];simp [CY,hbl]
  ·refine Dy ?_;try refine zqe ?_
   refine BM ?_;try refine zqe ?_
   refine BM ?_;simp only [ABS s (zbv hb),SSd,Nat.reduceAdd];refine call (JR (s.drop a2) [45,45] zu zy ?_);refine AP (λhp=>?_) (λhp=>?_)
   ·have h45:∃r,s.drop a2=45::45::r:=by
     obtain ⟨r,hr⟩:=zbe.1 hp;exact ⟨r,hr.symm⟩
    obtain ⟨r,hr⟩:=h45;have hskip:CY false (s.drop a2)=CY true (s.drop a2):=by
     rw [hr];simp [CY,Rq]
    rw [RD] at hskip;refine Dy ?_;try refine zqe ?_
    refine BM ?_;try refine zqe ?_
    refine BM ?_;simp only [ABS s (zbv hb),SSd,Nat.reduceAdd];refine call (GZ (s.drop a2) 10 ?_);cases hf:(s.drop a2).findIdx? (·==10) with
    |none=>
     rw [hf] at hskip;have hi:Gq (s.drop a2) 10= -1:=by simp only [Gq,hf]
     rw [hi];repeat' (first|refine zqa ?_|refine zqh (λ_=>?_)|refine zqr ?_|refine zqb ?_|refine zqi ?_ ?_|refine zqc ?_|refine zqg (λ_=>?_) (λ_=>?_)|refine zqe ?_|fail)
     exact zAA (hk s.length ha (zt _) (by rw [←hm,hskip];simp))
    |some n=>
     rw [hf] at hskip;obtain ⟨hn,hn1,hn2⟩:=List.findIdx?_eq_some_iff_getElem.1 hf;have hi:Gq (s.drop a2) 10=n:=by simp only [Gq,hf]
     have hn0:n≠0:=by
      rintro rfl;rw [hr] at hf;simp [List.findIdx?_cons] at hf
     have hlt:n < s.length - a2:=by simpa using hn
     rw [hi];have hneg:decide ((n:Int) < 0)=false:=by simp
     simp only [hneg,SSd,Nat.reduceAdd];refine rdb ?_;simp only [wrap_i64 ((a2:Int)+n) zo,SSd,Nat.reduceAdd];refine st1 rfl ?_;refine zAA ⟨m - n,by omega,a2+n,by omega,by omega,rfl,by simp,?_⟩;rw [←hm,hskip];simp
   ·refine zAA (hk a2 h1 zo ?_);rw [←hm,hd];rw [hd] at hp;have:(c==45&&(s.drop (a2+1)).head? ==some 45)=false:=by
     cases hx:(c==45&&(s.drop (a2+1)).head? ==some 45) with
     |false=>rfl
     |true=>
      simp only [zF,beq_iff_eq] at hx;obtain ⟨rfl,hx⟩:=hx;cases hy:s.drop (a2+1) with
      |nil=>rw [hy] at hx;simp at hx
      |cons d r=>
       rw [hy] at hx hp;simp at hx;subst hx;simp [List.isPrefixOf] at hp
    simp only [CY,hbl,this,zl,if_false]
 ·rename_i hb
  have hb:¬a2 < s.length:=by simpa using hb
  refine zAA (hk a2 h1 zo ?_);rw [←hm];have:s.drop a2=[]:=zat zo;rw [this];rfl
end
end Go.Proofs.YthkaekjoemhjaaaGreatDoor
