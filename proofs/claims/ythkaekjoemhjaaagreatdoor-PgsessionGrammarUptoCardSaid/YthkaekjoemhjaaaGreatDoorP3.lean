/- lemmas -/
import Derived.Test.YthkaekjoemhjaaaGreatDoorP2
set_option maxRecDepth 100000
set_option maxHeartbeats 40000000
set_option linter.unusedVariables false
set_option linter.unusedSimpArgs false
set_option linter.unusedSectionVars false
set_option linter.defProp false
namespace Go.Proofs.YthkaekjoemhjaaaGreatDoor
open Go.SL
def ADa (ω:Om)(p0 p4:Value)(p14 p15:Value)(x2 x3:Value)(x5 x16:Value)(Kn0:(Value×Value×Value×Value×Unit)→M)(K:Value→M):M:=Pv (AA .lss x16 p15) λa=>Br a (Pv (ixV 2 p14 x16) λa=>Rn (AB 2 a) λa=>New (.cells Za1 144 (0,0))<|gh λb=>Sto 2 b a<|gh λ_=>Lf 1 b λa=>Rn (lkR (.int .i64) (Value.agg Zi) true p4 a) λa=>Pv (exV a 0) λc=>Pv (exV a 1) λa=>New (.cells Zi 199 (0,0))<|gh λd=>Sto 2 d c<|gh λ_=>Pv (unV .not a) λa=>Gd a false (Lf 0 b λa=>AC 9 1 Za 1 [(0,a)]<|gh λa=>CT ω 96 #[a]<|gh λa=>Pv (unV .not a) λa=>Br a (K (Value.tuple Zp)) (Lf 0 b λa=>AC 9 1 Za 1 [(0,a)]<|gh λa=>CT ω 95 #[x5,a]<|gh λa=>CT ω 91 #[a,I0,(.int .i64 4)]<|gh λa=>CT ω 91 #[a,I0,(.int .i64 2)]<|gh λa=>Bg λS=>Lg S 0 d λb=>CT ω 91 #[a,b,(.int .i64 4)]<|gh<|AQ S λa=>Lg S 1 d λb=>CT ω 91 #[a,b,(.int .i64 2)]<|gh λa=>CT ω 91 #[a,(.int .i64 (-1)),(.int .i64 4)]<|gh λa=>CT ω 91 #[a,I0,(.int .i64 2)]<|gh λa=>Pv (AA .add x16 (.int .i64 1)) λb=>Kn0 (x2,x3,a,b,()))) (K (Value.tuple Zp))) (ADZ ω p0 x2 x3 x5 K)
def APR (ω:Om)(a0:Value)(K:Value→M):M:=CT ω 117 #[]<|gh λa=>Pv (lenV a0) λb=>CT ω 91 #[S0,b,(.int .i64 2)]<|gh λb=>Pv (lenV a0) λc=>Aq ((S0,Bf,b,I0,()):Value×Value×Value×Value×Unit) λs b=>ADa ω a0 a a0 c s.1 s.2.1 s.2.2.1 s.2.2.2.1 b K
variable {ω:Om}{K:Value→M}{I:Imm}{L:LH}{a0 a1 a2 a3 a4 a5 a6 a7 a8:Value}
def AQi:=zkc1 APR 93 Tryz.func93
def TE (ω:Om)(p0 p2:Value)(p3 p4 p5:Value)(K:Value→M):M:=Pv (lenV p0) λa=>Pv (AA .leq a (.int .i64 1600)) λa=>K (Value.tuple #[S0,p5,a])
def TC (ω:Om)(p8 p48:Value)(Kn1:(Value×Value×Unit)→M)(K:Value→M):M:=Pv (AA .add p48 (.int .i64 1)) λa=>Kn1 (p8,a,())
def ADW (ω:Om)(p8 p48:Value)(Kn1:(Value×Value×Unit)→M)(K:Value→M):M:=CT ω 91 #[p8,(.int .i64 (-1)),(.int .i64 4)]<|gh λa=>TC ω a p48 Kn1 K
def Yn (ω:Om)(p8 p10 p48:Value)(Kn1:(Value×Value×Unit)→M)(K:Value→M):M:=Bg λS=>Lg S 1 p10 λa=>Pv (BP a) λa=>CT ω 91 #[p8,a,(.int .i64 4)]<|gh<|AQ S λa=>Lg S 1 p10 λb=>App 5 1 1 #[(.int .u8 0)] a b<|gh λa=>TC ω a p48 Kn1 K
def Xd (ω:Om)(p2 p3:Value)(p4 p5:Value)(p46 p47:Value)(x8 x48:Value)(Kn1:(Value×Value×Unit)→M)(K:Value→M):M:=Pv (AA .lss x48 p47) λa=>Br a (Pv (ixV 2 p46 x48) λa=>Rn (AB 2 a) λa=>New (.cells Zj 113 (0,0))<|gh λb=>Sto 2 b a<|gh λ_=>Lf 0 b λa=>Br a (ADW ω x8 x48 Kn1 K) (Yn ω x8 b x48 Kn1 K)) (K (Value.tuple #[x8,p5,Bt]))
def ADX (ω:Om)(p0 p2:Value)(p3 p4 p5:Value)(K:Value→M):M:=Pv (AA .add p5 (.int .i64 4)) λa=>Pv (AA .gtr a (.int .i64 1073741824)) λa=>Gd a false (Pv (lenV p0) λa=>Pv (AA .gtr a (.int .i64 1600)) λa=>Br a (TE ω p0 p2 p3 p4 p5 K) (Pv (lenV p0) λa=>CT ω 91 #[S0,a,(.int .i64 2)]<|gh λa=>Pv (lenV p0) λb=>Aq ((a,I0,()):Value×Value×Unit) λs a=>Xd ω p2 p3 p4 p5 p0 b s.1 s.2.1 a K)) (TE ω p0 p2 p3 p4 p5 K)
def ADY (ω:Om)(p0 p11:Value)(p12 x2:Value)(x3 x4:Value)(x5 x13:Value)(Kn0:(Value×Value×Value×Value×Value×Unit)→M)(K:Value→M):M:=Pv (AA .lss x13 p12) λa=>Br a (Pv (ixV 2 p11 x13) λa=>Rn (AB 2 a) λa=>New (.cells Zj 113 (0,0))<|gh λb=>Sto 2 b a<|gh λ_=>Lf 0 b λa=>Gd a true (Lf 1 b λa=>Pv (BB .neq a Q0) λa=>Br a (K (Value.tuple #[S0,I0,Bf])) (Lf 1 b λa=>Pv (BP a) λa=>Pv (AA .add (.int .i64 4) a) λa=>Pv (AA .add x5 a) λa=>Pv (AA .add x13 (.int .i64 1)) λb=>Kn0 (x2,x3,x4,a,b,()))) (Lf 1 b λa=>Pv (BP a) λa=>Pv (AA .add (.int .i64 4) a) λa=>Pv (AA .add x5 a) λa=>Pv (AA .add x13 (.int .i64 1)) λb=>Kn0 (x2,x3,x4,a,b,()))) (ADX ω p0 x2 x3 x4 x5 K)
def APQ (ω:Om)(a0:Value)(K:Value→M):M:=Pv (lenV a0) λa=>Aq ((S0,I0,Bf,(.int .i64 2),I0,()):Value×Value×Value×Value×Value×Unit) λs b=>ADY ω a0 a0 a s.1 s.2.1 s.2.2.1 s.2.2.2.1 s.2.2.2.2.1 b K
def AQh:=zkc1 APQ 94 Tryz.func94
def ADV (ω:Om)(p4 p7:Value)(p8 x0 x9:Value)(Kn0:(Value×Value×Unit)→M)(K:Value→M):M:=Pv (AA .lss x9 p8) λa=>Br a (Pv (ixV 1 p7 x9) λa=>Rn (BF a) λa=>App 5 1 1 #[(.int .u8 0)] x0 a<|gh λa=>AC 5 1 #[(.int .u8 0)] 1 [(0,(.int .u8 0))]<|gh λb=>App 5 1 1 #[(.int .u8 0)] a b<|gh λa=>Pv (AA .add x9 (.int .i64 1)) λb=>Kn0 (a,b,())) (K x0)
def APP (ω:Om)(a0 a1:Value)(K:Value→M):M:=Pv (lenV a1) λa=>Aq ((a0,I0,()):Value×Value×Unit) λs b=>ADV ω S0 a1 a s.1 s.2.1 b K
def AQg:=zkc2 APP 95 Tryz.func95
def APO (ω:Om)(a0:Value)(K:Value→M):M:=CT ω 118 #[a0,(Value.func (.func 119) #[] #[])]<|gh λa=>Pv (unV .not a) λa=>K a
def AQf:=zkc1 APO 96 Tryz.func96
def APN (ω:Om)(a0:Value)(K:Value→M):M:=Pv (BP a0) λa=>Pv (AA .eql a (.int .i64 5)) λa=>Gd a true (CT ω 121 #[a0,(zS [48,49,50,51,52,53,54,55,56,57,65,66,67,68,69,70,71,72,73,74,75,76,77,78,79,80,81,82,83,84,85,86,87,88,89,90])]<|gh λa=>Pv (BB .eql a Q0) λa=>K a) (K Bf)
def AQe:=zkc1 APN 97 Tryz.func97
def APM (ω:Om)(a0 a1:Value)(K:Value→M):M:=New (.cells (Value.cells a0) 49 (0,0))<|gh λa=>New (.cells (Value.cells a1) 49 (0,0))<|gh λb=>Lf 0 a λc=>Lf 0 b λd=>Pv (AA .eql c d) λc=>Gd c true (Lf 1 a λc=>Lf 1 b λd=>Pv (BB .eql c d) λc=>Gd c true (Lf 2 a λc=>Lf 2 b λd=>Pv (BB .eql c d) λc=>Gd c true (Lf 3 a λc=>Lf 3 b λd=>Pv (AA .eql c d) λc=>Gd c true (Lf 4 a λc=>Lf 4 b λd=>Pv (AA .eql c d) λc=>Gd c true (Lf 5 a λc=>Lf 5 b λd=>Pv (AA .eql c d) λc=>Gd c true (Lf 8 a λc=>Lf 8 b λd=>Pv (BB .eql c d) λc=>Gd c true (Lf 9 a λc=>Lf 9 b λd=>Pv (Jp .eql c d) λc=>Gd c true (Lf 6 a λc=>Pv (lenV c) λc=>Lf 6 b λd=>Pv (lenV d) λd=>Pv (AA .eql c d) λc=>Gd c true (Lf 7 a λa=>Pv (lenV a) λa=>Lf 7 b λb=>Pv (lenV b) λb=>Pv (AA .eql a b) λa=>K a) (K Bf)) (K Bf)) (K Bf)) (K Bf)) (K Bf)) (K Bf)) (K Bf)) (K Bf)) (K Bf)
def AQd:=zkc2 APM 98 Tryz.func98
def ADT (ω:Om)(p3 p11:Value)(Kn0:(Value×Value×Unit)→M)(K:Value→M):M:=Pv (AA .add p11 (.int .i64 1)) λa=>Kn0 (p3,a,())
def ADR (ω:Om)(p2 p25:Value)(p26 x6 x27:Value)(Kn1:(Value×Value×Unit)→M)(K:Value→M):M:=Pv (AA .lss x27 p26) λa=>Br a (Pv (ixV 1 p25 x27) λa=>Rn (BF a) λa=>App 5 1 1 #[(.int .u8 0)] x6 a<|gh λa=>Pv (AA .add x27 (.int .i64 1)) λb=>Kn1 (a,b,())) (K x6)
def ADS (ω:Om)(p0 p2 p3:Value)(K:Value→M):M:=CT ω 122 #[S0,p3]<|gh λa=>Pv (lenV p0) λb=>Aq ((a,I0,()):Value×Value×Unit) λs a=>ADR ω p2 p0 b s.1 s.2.1 a K
def ADU (ω:Om)(p0 p2:Value)(p9 p10:Value)(x3 x11:Value)(Kn0:(Value×Value×Unit)→M)(K:Value→M):M:=Pv (AA .lss x11 p10) λa=>Br a (Pv (ixV 1 p9 x11) λa=>Rn (BF a) λa=>Pv (lenV a) λa=>Pv (AA .add x3 a) λa=>Pv (AA .lss a I0) λb=>Br b (F /- panic -/) (ADT ω a x11 Kn0 K)) (ADS ω p0 p2 x3 K)
def APL (ω:Om)(a0:Value)(K:Value→M):M:=Pv (lenV a0) λa=>Aq ((I0,I0,()):Value×Value×Unit) λs b=>ADU ω a0 S0 a0 a s.1 s.2.1 b K
def AQc:=zkc1 APL 99 Tryz.func99
def ALC (ω:Om)(a0:Value)(K:Value→M):M:=Pv (Ei (zS [32,82,83,75,90,84,68,67,73,69]) a0) λa=>K a
def AOw:=zkc1 ALC 100 Tryz.func100
def sh101_4 (ω:Om)(p2 p35:Value)(K:Value→M):M:=Br p35 (Pv (AU Ze #[(0,1),(1,1)] [(0,(zS [88,88,48,48,49])),(1,(zS [115,116,111,114,101,100,32,114,111,119,115,32,97,114,101,32,100,97,109,97,103,101,100]))]) λa=>Sto 2 p2 a<|gh λ_=>Rn (AB 2 p2) λa=>K a) (Pv (AU Ze #[(0,1),(1,1)] [(0,(zS [88,88,48,48,48])),(1,(zS [105,110,116,101,114,110,97,108,32,101,114,114,111,114]))]) λa=>Sto 2 p2 a<|gh λ_=>Rn (AB 2 p2) λa=>K a)
def sh101_3 (ω:Om)(p2 p3 p30:Value)(K:Value→M):M:=Br p30 (Pv (AU Ze #[(0,1),(1,1)] [(0,(zS [48,56,80,48,49])),(1,(zS [112,114,111,116,111,99,111,108,32,118,105,111,108,97,116,105,111,110]))]) λa=>Sto 2 p2 a<|gh λ_=>Rn (AB 2 p2) λa=>K a) (Pv (AA .eql p3 (.int .i64 224)) λa=>Br a (sh101_4 ω p2 a K) (Pv (AA .eql p3 (.int .i64 282)) λa=>sh101_4 ω p2 a K))
def sh101_2 (ω:Om)(p2 p3 p23:Value)(K:Value→M):M:=Br p23 (Pv (AU Ze #[(0,1),(1,1)] [(0,(zS [52,48,48,48,49])),(1,(zS [98,101,103,105,110,32,116,104,101,32,116,114,97,110,115,97,99,116,105,111,110,32,97,103,97,105,110]))]) λa=>Sto 2 p2 a<|gh λ_=>Rn (AB 2 p2) λa=>K a) (Pv (AA .eql p3 (.int .i64 82)) λa=>Br a (Pv (AU Ze #[(0,1),(1,1)] [(0,(zS [53,51,48,48,48])),(1,(zS [111,117,116,32,111,102,32,116,105,109,101,115,116,97,109,112,115]))]) λa=>Sto 2 p2 a<|gh λ_=>Rn (AB 2 p2) λa=>K a) (Pv (AA .eql p3 (.int .i64 230)) λa=>Br a (sh101_3 ω p2 p3 a K) (Pv (AA .eql p3 (.int .i64 231)) λa=>Br a (sh101_3 ω p2 p3 a K) (Pv (AA .eql p3 (.int .i64 232)) λa=>sh101_3 ω p2 p3 a K))))
def sh101_1 (ω:Om)(p2 p3 p19:Value)(K:Value→M):M:=Br p19 (Pv (AU Ze #[(0,1),(1,1)] [(0,(zS [53,51,49,48,48])),(1,(zS [116,104,101,32,100,105,115,107,32,105,115,32,102,117,108,108]))]) λa=>Sto 2 p2 a<|gh λ_=>Rn (AB 2 p2) λa=>K a) (Pv (AA .eql p3 (.int .i64 161)) λa=>Br a (sh101_2 ω p2 p3 a K) (Pv (AA .eql p3 (.int .i64 144)) λa=>sh101_2 ω p2 p3 a K))
def sh101 (ω:Om)(a0:Value)(K:Value→M):M:=New (.cells Ze 132 (0,0))<|gh λa=>Pv (AA .eql a0 (.int .i64 190)) λb=>Br b (Pv (AU Ze #[(0,1),(1,1)] [(0,(zS [50,50,48,48,51])),(1,(zS [110,117,109,98,101,114,32,111,117,116,32,111,102,32,114,97,110,103,101]))]) λb=>Sto 2 a b<|gh λ_=>Rn (AB 2 a) λa=>K a) (Pv (AA .eql a0 (.int .i64 191)) λb=>Br b (Pv (AU Ze #[(0,1),(1,1)] [(0,(zS [50,50,48,49,50])),(1,(zS [100,105,118,105,115,105,111,110,32,98,121,32,122,101,114,111]))]) λb=>Sto 2 a b<|gh λ_=>Rn (AB 2 a) λa=>K a) (Pv (AA .eql a0 (.int .i64 192)) λb=>Br b (Pv (AU Ze #[(0,1),(1,1)] [(0,(zS [50,50,48,48,49])),(1,(zS [116,101,120,116,32,105,115,32,116,111,111,32,108,111,110,103]))]) λb=>Sto 2 a b<|gh λ_=>Rn (AB 2 a) λa=>K a) (Pv (AA .eql a0 (.int .i64 221)) λb=>Br b (Pv (AU Ze #[(0,1),(1,1)] [(0,(zS [50,51,53,48,53])),(1,(zS [116,104,101,32,107,101,121,32,105,115,32,116,104,101,114,101,32,97,108,114,101,97,100,121]))]) λb=>Sto 2 a b<|gh λ_=>Rn (AB 2 a) λa=>K a) (Pv (AA .eql a0 (.int .i64 222)) λb=>Br b (Pv (AU Ze #[(0,1),(1,1)] [(0,(zS [50,51,53,48,50])),(1,(zS [110,117,108,108,32,119,104,101,114,101,32,110,111,110,101,32,109,97,121,32,98,101]))]) λb=>Sto 2 a b<|gh λ_=>Rn (AB 2 a) λa=>K a) (Pv (AA .eql a0 (.int .i64 24)) λb=>Br b (sh101_1 ω a a0 b K) (Pv (AA .eql a0 (.int .i64 23)) λb=>sh101_1 ω a a0 b K))))))
def AOv:=zkc1 sh101 101 Tryz.func101
def ALB (ω:Om)(a0:Value)(K:Value→M):M:=Bg λS=>Pv (ixV 1 a0 I0) λa=>Rs S (BF a) λa=>Pv (GG .u32 a) λa=>Pv (AA .shl a (.int .u64 24)) λa=>Pv (ixV 1 a0 (.int .i64 1)) λb=>Rs S (BF b) λb=>Pv (GG .u32 b) λb=>Pv (AA .shl b (.int .u64 16)) λb=>Pv (AA .or a b) λa=>Pv (ixV 1 a0 (.int .i64 2)) λb=>Rs S (BF b) λb=>Pv (GG .u32 b) λb=>Pv (AA .shl b (.int .u64 8)) λb=>Pv (AA .or a b) λa=>Pv (ixV 1 a0 (.int .i64 3)) λb=>Rs S (BF b) λb=>Pv (GG .u32 b) λb=>Pv (AA .or a b) λa=>Pv (GG .i32 a) λa=>Pv (GG .i64 a) λa=>K a
def AOu:=zkc1 ALB 102 Tryz.func102
def OQ (ω:Om)(p6 p14:Value)(Kn0:(Value×Value×Unit)→M)(K:Value→M):M:=Pv (AA .add p14 (.int .i64 1)) λa=>Kn0 (p6,a,())
def AAW (ω:Om)(p4 p12:Value)(p13 x6 x14:Value)(Kn0:(Value×Value×Unit)→M)(K:Value→M):M:=Pv (AA .lss x14 p13) λa=>Br a (Pv (ixV 1 p12 x14) λa=>Rn (BF a) λa=>Pv (AA .eql x14 I0) λb=>Br b (Pv (GG .i8 a) λa=>Pv (GG .i64 a) λa=>OQ ω a x14 Kn0 K) (Pv (AA .shl x6 (.int .u64 8)) λb=>Pv (GG .i64 a) λa=>Pv (AA .or b a) λa=>OQ ω a x14 Kn0 K)) (K x6)
def ALA (ω:Om)(a0 a1:Value)(K:Value→M):M:=CT ω 105 #[a0,a1]<|gh λa=>Pv (lenV a) λb=>Aq ((I0,I0,()):Value×Value×Unit) λs c=>AAW ω I0 a b s.1 s.2.1 c K
def AOt:=zkc2 ALA 103 Tryz.func103
def AKz (ω:Om)(a0:Value)(K:Value→M):M:=Pv (Ad a0) λa=>Lf 0 a λa=>CT ω 123 #[a,(.int .u8 0)]<|gh λa=>CT ω 105 #[a0,a]<|gh λa=>Rn (bsR a) λa=>Pv (Ad a0) λb=>Lf 1 b λb=>Pv (unV .not b) λb=>Br b (CT ω 105 #[a0,(.int .i64 1)]<|gh λ_=>K a) (K a)
def AOs:=zkc1 AKz 104 Tryz.func104
def Kt (ω:Om)(p0 p1 p4:Value)(K:Value→M):M:=Pv (Ad p0) λa=>Lf 0 a λa=>Pv (Bi 1 a none (some p1) none) λa=>Pv (Ad p0) λb=>Lf 0 b λb=>Pv (Bi 1 b (some p1) none none) λb=>Pv (Ad p0) λc=>Pv (Ae 0 c) λc=>Sto 1 c b<|gh λ_=>K a
def OO (ω:Om)(p0 p1 p4:Value)(K:Value→M):M:=Pv (Ad p0) λa=>Pv (Ae 1 a) λa=>Sto 1 a Bt<|gh λ_=>Kt ω p0 I0 p4 K
def AKy (ω:Om)(a0 a1:Value)(K:Value→M):M:=Pv (AA .lss a1 I0) λa=>Gd a false (Pv (Ad a0) λa=>Lf 0 a λa=>Pv (lenV a) λa=>Pv (AA .gtr a1 a) λa=>Br a (OO ω a0 a1 S0 K) (Kt ω a0 a1 S0 K)) (OO ω a0 a1 S0 K)
def AOr:=zkc2 AKy 105 Tryz.func105
def AKx (ω:Om)(a0:Value)(K:Value→M):M:=Pv (Ad a0) λa=>Lf 1 a λa=>Pv (unV .not a) λa=>Gd a true (Pv (Ad a0) λa=>Lf 0 a λa=>Pv (lenV a) λa=>Pv (AA .eql a I0) λa=>K a) (K Bf)
def AOq:=zkc1 AKx 106 Tryz.func106
def sh107_1 (ω:Om)(p2 p3:Value)(p4 p5:Value)(K:Value→M):M:=Lf 0 p5 λa=>Pv (AA .neq a I0) λa=>Br a (Bg λS=>Rs S (AB 2 p5) λa=>Sto 2 p3 a<|gh λ_=>Rn (AB 2 p3) λa=>K (Value.tuple #[S0,a])) (CT ω 126 #[p4]<|gh λa=>Pv (AU Zi #[(0,1),(1,1)] []) λb=>Sto 2 p3 b<|gh λ_=>Rn (AB 2 p3) λb=>K (Value.tuple #[a,b]))
def AKw (ω:Om)(a0:Value)(K:Value→M):M:=New (.cells Zi 157 (0,0))<|gh λa=>Pv (BP a0) λb=>Pv (AA .gtr b (.int .i64 65536)) λb=>Br b (Pv (AU Zi #[(0,1),(1,1)] [(0,(.int .i64 170)),(1,(.int .i64 65536))]) λb=>Sto 2 a b<|gh λ_=>Rn (AB 2 a) λa=>K (Value.tuple #[S0,a])) (CT ω 124 #[a0]<|gh λb=>Pv (exV b 0) λc=>Pv (exV b 1) λb=>New (.cells Zi 157 (0,0))<|gh λd=>Sto 2 d b<|gh λ_=>Lf 0 d λb=>Pv (AA .eql b I0) λb=>Br b (CT ω 125 #[c]<|gh λb=>Pv (Ae 0 d) λe=>Sto 1 e b<|gh λ_=>sh107_1 ω S0 a c d K) (sh107_1 ω S0 a c d K))
def AOp:=zkc1 AKw 107 Tryz.func107
def AKv (ω:Om)(a0:Value)(K:Value→M):M:=Pv (AA .eql a0 (.int .i64 1)) λa=>Br a (K (Value.tuple #[(.int .i64 20),(.int .i64 8),Bt])) (Pv (AA .eql a0 (.int .i64 2)) λa=>Br a (K (Value.tuple #[(.int .i64 16),(.int .i64 1),Bt])) (Pv (AA .eql a0 (.int .i64 3)) λa=>Br a (K (Value.tuple #[(.int .i64 25),(.int .i64 (-1)),Bt])) (K (Value.tuple #[I0,I0,Bf]))))
def AOo:=zkc1 AKv 109 Tryz.func109
def AAU (ω:Om)(p0 p2:Value)(K:Value→M):M:=Pv (BP p0) λa=>Pv (AA .eql a (.int .i64 5)) λa=>K a
def AAV (ω:Om)(p0 x2 x3:Value)(Kn0:(Value×Value×Unit)→M)(K:Value→M):M:=Pv (BP p0) λa=>Pv (AA .lss x3 a) λa=>Br a (Pv (Ei p0 x3) λa=>Pv (AA .geq a (.int .u8 48)) λb=>Gd b true (Pv (AA .leq a (.int .u8 57)) λb=>Gd b false (Pv (AA .geq a (.int .u8 65)) λb=>Gd b true (Pv (AA .leq a (.int .u8 90)) λa=>Pv (unV .not a) λa=>Br a (K Bf) (Pv (AA .add x3 (.int .i64 1)) λa=>Kn0 (x2,a,()))) (K Bf)) (Pv (AA .add x3 (.int .i64 1)) λa=>Kn0 (x2,a,()))) (Pv (AA .geq a (.int .u8 65)) λb=>Gd b true (Pv (AA .leq a (.int .u8 90)) λa=>Pv (unV .not a) λa=>Br a (K Bf) (Pv (AA .add x3 (.int .i64 1)) λa=>Kn0 (x2,a,()))) (K Bf))) (AAU ω p0 x2 K)
def AKu (ω:Om)(a0:Value)(K:Value→M):M:=Aq ((Bf,I0,()):Value×Value×Unit) λs Kn0=>AAV ω a0 s.1 s.2.1 Kn0 K
def AOn:=zkc1 AKu 110 Tryz.func110
def AKt (ω:Om)(a0 a1:Value)(K:Value→M):M:=CT ω 139 #[a0,a1]<|gh λa=>Pv (AA .geq a I0) λa=>K a
def AOm:=zkc2 AKt 115 Tryz.func115
def AKs (ω:Om)(a0:Value)(K:Value→M):M:=Pv (GG .i32 a0) λa=>Pv (GG .i64 a) λa=>Pv (AA .neq a0 a) λa=>K a
def AOl:=zkc1 AKs 116 Tryz.func116
def AKr (ω:Om)(K:Value→M):M:=Uk<|gh λa=>Pv (AU Zi #[(0,1),(1,1)] [(0,(.int .i64 20)),(1,(.int .i64 8))]) λb=>GR (.int .i64) a (.int .i64 1) b<|gh λ_=>Pv (AU Zi #[(0,1),(1,1)] [(0,(.int .i64 16)),(1,(.int .i64 1))]) λb=>GR (.int .i64) a (.int .i64 2) b<|gh λ_=>Pv (AU Zi #[(0,1),(1,1)] [(0,(.int .i64 25)),(1,(.int .i64 (-1)))]) λb=>GR (.int .i64) a (.int .i64 3) b<|gh λ_=>K a
def AOk:=zkc0 AKr 117 Tryz.func117
def AKq (ω:Om)(a0 a1:Value)(K:Value→M):M:=CT ω 140 #[a0,a1]<|gh λa=>Pv (AA .geq a I0) λa=>K a
def AOj:=zkc2 AKq 118 Tryz.func118
def AKp (ω:Om)(a0:Value)(K:Value→M):M:=CT ω 120 #[a0,(.int .u8 0)]<|gh λa=>Pv (AA .geq a I0) λa=>K a
def AOi:=zkc1 AKp 119 Tryz.func119
def AKo (ω:Om)(a0 a1:Value)(K:Value→M):M:=CT ω 141 #[a0,a1]<|gh λa=>K a
def AOh:=zkc2 AKo 120 Tryz.func120
def AHj (ω:Om)(p0 p1 p4:Value)(K:Value→M):M:=Bg λS=>Pv (Ei p1 I0) λa=>CT ω 143 #[p0,a]<|gh λa=>Pv (Ei p1 I0) λb=>CT ω 142 #[a,b]<|gh λa=>K a
def Tz (ω:Om)(p0 p4 p5:Value)(K:Value→M):M:=CT ω 146 #[p0,p5]<|gh λa=>CT ω 145 #[a,p5]<|gh λa=>K a
def AKn (ω:Om)(a0 a1:Value)(K:Value→M):M:=Pv (BB .eql a0 Q0) λa=>Gd a false (Pv (BB .eql a1 Q0) λa=>Br a (K a0) (Pv (BP a1) λa=>Pv (AA .eql a (.int .i64 1)) λa=>Gd a true (Pv (Ei a1 I0) λa=>Pv (AA .lss a (.int .u8 128)) λa=>Br a (AHj ω a0 a1 Q0 K) (CT ω 144 #[a1]<|gh λa=>Pv (exV a 0) λb=>Pv (exV a 1) λa=>New (.cells Zb1 232 (0,0))<|gh λc=>Sto 256 c b<|gh λ_=>Br a (Tz ω a0 Q0 c K) (CT ω 148 #[a0,a1]<|gh λa=>CT ω 147 #[a,a1]<|gh λa=>K a))) (CT ω 144 #[a1]<|gh λa=>Pv (exV a 0) λb=>Pv (exV a 1) λa=>New (.cells Zb1 232 (0,0))<|gh λc=>Sto 256 c b<|gh λ_=>Br a (Tz ω a0 Q0 c K) (CT ω 148 #[a0,a1]<|gh λa=>CT ω 147 #[a,a1]<|gh λa=>K a)))) (K a0)
def AOg:=zkc2 AKn 121 Tryz.func121
def AAT (ω:Om)(p0 p1 p4:Value)(K:Value→M):M:=Pv (WQ p0) λa=>Pv (lenV p0) λb=>Pv (AA .sub a b) λa=>Pv (AA .sub p1 a) λa=>Pv (AA .gtr a I0) λb=>Br b (Pv (WQ p0) λb=>Pv (Bi 1 p0 none (some b) none) λb=>API 5 1 1 #[(.int .u8 0)] b a<|gh λa=>Pv (lenV p0) λb=>Pv (Bi 1 a none (some b) none) λa=>K a) (K p0)
def AKm (ω:Om)(a0 a1:Value)(K:Value→M):M:=Pv (AA .lss a1 I0) λa=>Br a (F /- panic -/) (AAT ω a0 a1 S0 K)
def AOf:=zkc2 AKm 122 Tryz.func122
def AKl (ω:Om)(a0 a1:Value)(K:Value→M):M:=ExtE Tryz.prog ω Extern.BytealgIndexByte.indexByte #[a0,a1]<|gh λa=>K a
def AOe:=zkc2 AKl 123 Tryz.func123
def AAR (ω:Om)(p2 p3 p5:Value)(Kn0:(Unit)→M)(W5 W6:Value)(K:Value→M):M:=AP Tryz.prog ω 155 #[p5] (λa=>AJD Tryz.prog ω 151 #[W5,W6] a<|gh λ_=>Rn (BF p2) λa=>Rn (AB 2 p3) λb=>K (Value.tuple #[a,b]))<|gh λ_=>Kn0 (())
def AAQ (ω:Om)(p2 p3:Value)(W9 W10:Value)(K:Value→M):M:=Rn (BF p2) λa=>Pv (AU Zi #[(0,1),(1,1)] []) λb=>Sto 1 p2 a<|gh λ_=>Sto 2 p3 b<|gh λ_=>ASL Tryz.prog ω 151 #[W9,W10]<|gh λ_=>Rn (BF p2) λa=>Rn (AB 2 p3) λb=>K (Value.tuple #[a,b])
def AAS (ω:Om)(p2 p3 p5:Value)(Kn0:(Unit)→M)(W1 W2:Value)(K:Value→M):M:=Pv (Ad p5) λa=>Lf 0 a λa=>Pv (ixV 4 a I0) λa=>Lf 0 a λa=>Pv (AA .neq a (.int .i64 6)) λa=>Br a (AP Tryz.prog ω 152 #[p5,(zS [59])] (λa=>AJD Tryz.prog ω 151 #[W1,W2] a<|gh λ_=>Rn (BF p2) λa=>Rn (AB 2 p3) λb=>K (Value.tuple #[a,b]))<|gh λa=>Br a (Kn0 (())) (Bg λS=>Rs S (BF p2) λa=>AP Tryz.prog ω 153 #[p5] (λa=>AJD Tryz.prog ω 151 #[W1,W2] a<|gh λ_=>Rn (BF p2) λa=>Rn (AB 2 p3) λb=>K (Value.tuple #[a,b]))<|gh<|AQ S λb=>AC 76 51 Zf 1 [(0,b)]<|gh<|AQ S λb=>App 76 51 712 Zf a b<|gh λa=>Sto 1 p2 a<|gh λ_=>Pv (Ad p5) λa=>Lf 0 a λa=>Pv (ixV 4 a I0) λa=>Lf 0 a λa=>Pv (AA .neq a (.int .i64 6)) λa=>Gd a true (AP Tryz.prog ω 154 #[p5,(zS [59])] (λa=>AJD Tryz.prog ω 151 #[W1,W2] a<|gh λ_=>Rn (BF p2) λa=>Rn (AB 2 p3) λb=>K (Value.tuple #[a,b]))<|gh λa=>Pv (unV .not a) λa=>Br a (AAR ω p2 p3 p5 Kn0 W1 W2 K) (Kn0 (()))) (Kn0 (())))) (AAQ ω p2 p3 W1 W2 K)
def AKk (ω:Om)(a0:Value)(K:Value→M):M:=New (.cells #[S0] 84 (0,0))<|gh λa=>New (.cells Zi 157 (0,0))<|gh λb=>AP Tryz.prog ω 150 #[a0] (λ_=>F)<|gh λc=>Pv (exV c 0) λd=>Pv (exV c 1) λc=>Sto 2 b c<|gh λ_=>Lf 0 b λc=>Pv (AA .neq c I0) λc=>Br c (Qi [a] λS=>Rs S (AB 2 b) λc=>Sto 1 a S0<|gh<|AQ S λ_=>Sto 2 b c<|gh λ_=>Rn (BF a) λa=>Rn (AB 2 b) λb=>K (Value.tuple #[a,b])) (Pv (AU #[S0] #[(0,1)] [(0,d)]) λc=>New (.cells (Value.cells c) 245 (0,0))<|gh λc=>Aq ((()):Unit) λs d=>AAS ω a b c d a b K)
def AOd:=zkq1 AKk 124 Tryz.func124
def AKj (ω:Om)(a0:Value)(K:Value→M):M:=CT ω 156 #[a0]<|gh λa=>Pv (exV a 0) λb=>Pv (exV a 1) λa=>Pv (AA .gtr a (.int .i64 64)) λa=>Br a (K (.int .i64 175)) (Pv (AA .gtr b (.int .i64 2000)) λa=>Br a (K (.int .i64 176)) (K I0))
def AOc:=zkc1 AKj 125 Tryz.func125
def AKi (ω:Om)(a0:Value)(K:Value→M):M:=Pv (lenV a0) λa=>Pv (lenV a0) λb=>Pv (Bi 51 a0 none (some a) (some b)) λa=>K a
def AOb:=zkc1 AKi 126 Tryz.func126
def AAP (ω:Om)(p0 p1:Value)(p7 x4 x8:Value)(Kn0:(Value×Value×Unit)→M)(K:Value→M):M:=Pv (AA .lss x8 p7) λa=>Br a (Pv (ixV 1 p0 x8) λa=>Rn (BF a) λa=>CW ω p1 #[a]<|gh λa=>Br a (K x8) (Pv (AA .add x8 (.int .i64 1)) λa=>Kn0 (x4,a,()))) (K (.int .i64 (-1)))
def AKh (ω:Om)(a0 a1:Value)(K:Value→M):M:=Pv (lenV a0) λa=>Aq ((I0,I0,()):Value×Value×Unit) λs b=>AAP ω a0 a1 a s.1 s.2.1 b K
def AOa:=zkc2 AKh 139 Tryz.func139
def AAO (ω:Om)(p0 p1:Value)(p7 x4 x8:Value)(Kn0:(Value×Value×Unit)→M)(K:Value→M):M:=Pv (AA .lss x8 p7) λa=>Br a (Pv (ixV 1 p0 x8) λa=>Rn (BF a) λa=>CW ω p1 #[a]<|gh λa=>Br a (K x8) (Pv (AA .add x8 (.int .i64 1)) λa=>Kn0 (x4,a,()))) (K (.int .i64 (-1)))
def AKg (ω:Om)(a0 a1:Value)(K:Value→M):M:=Pv (lenV a0) λa=>Aq ((I0,I0,()):Value×Value×Unit) λs b=>AAO ω a0 a1 a s.1 s.2.1 b K
def AOZ:=zkc2 AKg 140 Tryz.func140
def AKf (ω:Om)(a0 a1:Value)(K:Value→M):M:=ExtE Tryz.prog ω Extern.BytealgIndexByte.indexByte #[a0,a1]<|gh λa=>K a
def AOY:=zkc2 AKf 141 Tryz.func141
def AAM (ω:Om)(p2 p3:Value)(K:Value→M):M:=Rn (AB 256 p2) λa=>Sto 256 p2 a<|gh λ_=>Rn (AB 256 p2) λa=>K (Value.tuple #[a,Bt])
def AAN (ω:Om)(p0 p2:Value)(x3 x4:Value)(Kn0:(Value×Value×Unit)→M)(K:Value→M):M:=Pv (BP p0) λa=>Pv (AA .lss x4 a) λa=>Br a (Pv (Ei p0 x4) λa=>Pv (AA .geq a (.int .u8 128)) λb=>Br b (Rn (AB 256 p2) λa=>Sto 256 p2 a<|gh λ_=>Rn (AB 256 p2) λa=>K (Value.tuple #[a,Bf])) (Pv (MZ 1 256 p2 a) λa=>Sto 1 a Bt<|gh λ_=>Pv (AA .add x4 (.int .i64 1)) λa=>Kn0 (x3,a,()))) (AAM ω p2 x3 K)
def AKe (ω:Om)(a0:Value)(K:Value→M):M:=New (.cells Zb1 232 (0,0))<|gh λas_1=>Aq ((Bf,I0,()):Value×Value×Unit) λs Kn0=>AAN ω a0 as_1 s.1 s.2.1 Kn0 K
def AOX:=zkc1 AKe 144 Tryz.func144
def AAL (ω:Om)(p1 p4 x0:Value)(Kn0:(Value×Unit)→M)(K:Value→M):M:=Pv (BP x0) λa=>Pv (AA .gtr a I0) λa=>Br a (Pv (Ei x0 I0) λa=>CT ω 178 #[p1,a]<|gh λa=>Pv (unV .not a) λa=>Br a (K x0) (Pv (DT x0 (some (.int .i64 1)) none) λa=>Kn0 (a,()))) (K x0)
def AKd (ω:Om)(a0 a1:Value)(K:Value→M):M:=Aq ((a0,()):Value×Unit) λs Kn0=>AAL ω a1 Q0 s.1 Kn0 K
def AOW:=zkc2 AKd 145 Tryz.func145
def AAK (ω:Om)(p1 p4 x0:Value)(Kn0:(Value×Unit)→M)(K:Value→M):M:=Pv (BP x0) λa=>Pv (AA .gtr a I0) λa=>Br a (Pv (BP x0) λa=>Pv (AA .sub a (.int .i64 1)) λa=>Pv (Ei x0 a) λa=>CT ω 178 #[p1,a]<|gh λa=>Pv (unV .not a) λa=>Br a (K x0) (Pv (BP x0) λa=>Pv (AA .sub a (.int .i64 1)) λa=>Pv (DT x0 none (some a)) λa=>Kn0 (a,()))) (K x0)
def AKc (ω:Om)(a0 a1:Value)(K:Value→M):M:=Aq ((a0,()):Value×Unit) λs Kn0=>AAK ω a1 Q0 s.1 Kn0 K
def AOV:=zkc2 AKc 146 Tryz.func146
def AAI (ω:Om)(p0 p2:Value)(p3 p5:Value)(K:Value→M):M:=Pv (BP p0) λa=>Pv (AU Zk Zq [(0,(.int .i64 6)),(1,a)]) λa=>AC 247 4 Zk 1 [(0,a)]<|gh λa=>App 247 4 40 Zk p5 a<|gh λa=>Pv (AU Zi #[(0,1),(1,1)] []) λb=>Sto 2 p3 b<|gh λ_=>Rn (AB 2 p3) λb=>K (Value.tuple #[a,b])
def AAJ (ω:Om)(p0 p3:Value)(p4 x2 x5:Value)(Kn0:(Value×Value×Unit)→M)(K:Value→M):M:=Pv (Ad p4) λa=>Lf 1 a λa=>Pv (BP p0) λb=>Pv (AA .lss a b) λa=>Br a (CT ω 184 #[p4]<|gh λa=>Pv (exV a 0) λb=>Pv (exV a 1) λa=>New (.cells Zk 247 (0,0))<|gh λc=>Sto 4 c b<|gh λ_=>Pv (AA .neq a I0) λb=>Br b (Bg λS=>Lg S 1 c λb=>Pv (AU Zi #[(0,1),(1,1)] [(0,a),(1,b)]) λa=>Sto 2 p3 a<|gh λ_=>Rn (AB 2 p3) λa=>K (Value.tuple #[S0,a])) (Rn (AB 4 c) λa=>AC 247 4 Zk 1 [(0,a)]<|gh λa=>App 247 4 40 Zk x5 a<|gh λa=>CT ω 183 #[p4]<|gh λ_=>Kn0 (x2,a,()))) (AAI ω p0 x2 p3 x5 K)
def AKb (ω:Om)(a0:Value)(K:Value→M):M:=New (.cells Zi 157 (0,0))<|gh λa=>CT ω 182 #[]<|gh λb=>Pv (AU #[Q0,I0,S0] #[(0,1),(1,1),(2,1)] [(0,a0),(2,b)]) λb=>New (.cells (Value.cells b) 266 (0,0))<|gh λb=>CT ω 183 #[b]<|gh λ_=>Aq ((S0,S0,()):Value×Value×Unit) λs c=>AAJ ω a0 a b s.1 s.2.1 c K
def AOU:=zkc1 AKb 150 Tryz.func150
def sh151_1 (ω:Om)(p0 p1 p3:Value)(K:Value→M):M:=Qi [p0] λS=>Lg S 0 p3 λa=>Pv (AU Zi #[(0,1),(1,1)] [(0,(.int .i64 174)),(1,a)]) λa=>Sto 1 p0 S0<|gh<|AQ S λ_=>Sto 2 p1 a<|gh λ_=>K (Value.tuple #[])
def sh151 (ω:Om)(rv a0 a1:Value)(K:Value→M):M:=Pv (some rv) λ_=>Pv (Nk true .neq rv Value.nilIface) λa=>Br a (Pv (Wx 241 (Value.agg #[I0]) rv) λa=>Pv (exV a 0) λb=>Pv (exV a 1) λa=>New (.cells #[I0] 241 (0,0))<|gh λc=>Sto 1 c b<|gh λ_=>Pv (unV .not a) λa=>Br a (F /- panic -/) (sh151_1 ω a0 a1 c K)) (K (Value.tuple #[]))
theorem VG (ω:Om)(rv:Value)(a0 a1:Value)(K:Value→M):vcR Tryz.prog ω rv Tryz.f151 [a0,a1] K=sh151 ω rv a0 a1 K:=by kernel_rfl
theorem AIp {ω:Om}{a0 a1:Value}{K:Value→M}{I:Imm}{L:LH}(h:sh151 ω .nilIface a0 a1 (λv=>Gh (K v)) I L):CalD Tryz.prog ω 151 #[a0,a1] K I L:=
 CalD.gh (WS mixed Tryz.func151 (by rw [VG];exact h))
theorem AIn {ω:Om}{rv:Value}{a0 a1:Value}{K:Value→M}{I:Imm}{L:LH}(h:sh151 ω rv a0 a1 (λv=>Gh (K v)) I L):CalDR Tryz.prog ω 151 #[a0,a1] rv K I L:=
 CalDR.gh (Ue mixed Tryz.func151 (by rw [VG];exact h))
def AKa (ω:Om)(a0 a1:Value)(K:Value→M):M:=CT ω 154 #[a0,a1]<|gh λa=>Br a (CT ω 185 #[a0]<|gh λ_=>K a) (K a)
def AOT:=zkc2 AKa 152 Tryz.func152
def sh153_1 (ω:Om)(p0 p2 p3:Value)(K:Value→M)(Pn:Value→M):M:=AC 9 1 Za 1 [(0,(zS [118,97,108,117,101,115]))]<|gh λa=>AP Tryz.prog ω 187 #[p0,a] Pn<|gh λ_=>AP Tryz.prog ω 190 #[p0,(Value.func (Fn.func 191) #[p0] #[])] Pn<|gh λa=>Pv (Ae 32 p3) λb=>Sto 1 b a<|gh λ_=>Rn (AB 51 p3) λa=>Sto 51 p2 a<|gh λ_=>Rn (AB 51 p2) λa=>K a
def sh153 (ω:Om)(a0:Value)(K:Value→M)(Pn:Value→M):M:=New (.cells Zf 76 (0,0))<|gh λa=>AP Tryz.prog ω 152 #[a0,(zS [115,101,108,101,99,116])] Pn<|gh λb=>Br b (AP Tryz.prog ω 186 #[a0] Pn<|gh λb=>Pv (AU Zf Zn [(0,(.int .i64 1)),(1,b)]) λb=>Sto 51 a b<|gh λ_=>Rn (AB 51 a) λa=>K a) (AP Tryz.prog ω 152 #[a0,(zS [105,110,115,101,114,116])] Pn<|gh λb=>Br b (AC 9 1 Za 1 [(0,(zS [105,110,116,111]))]<|gh λb=>AP Tryz.prog ω 187 #[a0,b] Pn<|gh λ_=>AP Tryz.prog ω 188 #[a0] Pn<|gh λb=>Pv (AU Zf Zn [(0,(.int .i64 2)),(2,b)]) λb=>New (.cells Zf 76 (0,0))<|gh λc=>Sto 51 c b<|gh λ_=>AP Tryz.prog ω 154 #[a0,(zS [40])] Pn<|gh λb=>Br b (AP Tryz.prog ω 189 #[a0] Pn<|gh λb=>Pv (Ae 31 c) λd=>Sto 1 d b<|gh λ_=>sh153_1 ω a0 a c K Pn) (sh153_1 ω a0 a c K Pn)) (AP Tryz.prog ω 152 #[a0,(zS [117,112,100,97,116,101])] Pn<|gh λb=>Br b (AP Tryz.prog ω 188 #[a0] Pn<|gh λb=>Pv (AU Zf Zn [(0,(.int .i64 3)),(2,b)]) λb=>New (.cells Zf 76 (0,0))<|gh λc=>Sto 51 c b<|gh λ_=>AC 9 1 Za 1 [(0,(zS [115,101,116]))]<|gh λb=>AP Tryz.prog ω 187 #[a0,b] Pn<|gh λ_=>AP Tryz.prog ω 192 #[a0,(Value.func (Fn.func 193) #[a0] #[])] Pn<|gh λb=>Pv (Ae 33 c) λd=>Sto 1 d b<|gh λ_=>AP Tryz.prog ω 194 #[a0,(zS [119,104,101,114,101])] Pn<|gh λb=>Pv (Ae 34 c) λd=>Sto 11 d b<|gh λ_=>Rn (AB 51 c) λb=>Sto 51 a b<|gh λ_=>Rn (AB 51 a) λa=>K a) (AP Tryz.prog ω 152 #[a0,(zS [100,101,108,101,116,101])] Pn<|gh λb=>Br b (AC 9 1 Za 1 [(0,(zS [102,114,111,109]))]<|gh λb=>AP Tryz.prog ω 187 #[a0,b] Pn<|gh λ_=>AP Tryz.prog ω 188 #[a0] Pn<|gh λb=>Pv (AU Zf Zn [(0,(.int .i64 4)),(2,b)]) λb=>New (.cells Zf 76 (0,0))<|gh λc=>Sto 51 c b<|gh λ_=>AP Tryz.prog ω 194 #[a0,(zS [119,104,101,114,101])] Pn<|gh λb=>Pv (Ae 34 c) λd=>Sto 11 d b<|gh λ_=>Rn (AB 51 c) λb=>Sto 51 a b<|gh λ_=>Rn (AB 51 a) λa=>K a) (AP Tryz.prog ω 152 #[a0,(zS [99,114,101,97,116,101])] Pn<|gh λb=>Br b (AP Tryz.prog ω 195 #[a0] Pn<|gh λb=>Sto 51 a b<|gh λ_=>Rn (AB 51 a) λa=>K a) (AP Tryz.prog ω 152 #[a0,(zS [100,114,111,112])] Pn<|gh λb=>Br b (AP Tryz.prog ω 152 #[a0,(zS [116,97,98,108,101])] Pn<|gh λb=>Br b (AP Tryz.prog ω 188 #[a0] Pn<|gh λb=>Pv (AU Zf Zn [(0,(.int .i64 7)),(2,b)]) λb=>Sto 51 a b<|gh λ_=>Rn (AB 51 a) λa=>K a) (AC 9 1 Za 1 [(0,(zS [105,110,100,101,120]))]<|gh λb=>AP Tryz.prog ω 187 #[a0,b] Pn<|gh λ_=>AP Tryz.prog ω 188 #[a0] Pn<|gh λb=>Pv (AU Zc1 Zq [(0,b)]) λb=>Pv (AU Zf Zn [(0,(.int .i64 8)),(9,b)]) λb=>Sto 51 a b<|gh λ_=>Rn (AB 51 a) λa=>K a)) (AP Tryz.prog ω 152 #[a0,(zS [98,101,103,105,110])] Pn<|gh λb=>Br b (Pv (AU Zf Zn [(0,(.int .i64 9))]) λb=>Sto 51 a b<|gh λ_=>Rn (AB 51 a) λa=>K a) (AP Tryz.prog ω 152 #[a0,(zS [99,111,109,109,105,116])] Pn<|gh λb=>Br b (Pv (AU Zf Zn [(0,(.int .i64 10))]) λb=>Sto 51 a b<|gh λ_=>Rn (AB 51 a) λa=>K a) (AC 9 1 Za 1 [(0,(zS [114,111,108,108,98,97,99,107]))]<|gh λb=>AP Tryz.prog ω 187 #[a0,b] Pn<|gh λ_=>Pv (AU Zf Zn [(0,(.int .i64 11))]) λb=>Sto 51 a b<|gh λ_=>Rn (AB 51 a) λa=>K a))))))))
def AOS:=zkp1 sh153 153 Tryz.func153
def AKZ (ω:Om)(a0 a1:Value)(K:Value→M):M:=Pv (Ad a0) λa=>Lf 0 a λa=>Pv (ixV 4 a I0) λa=>Rn (AB 4 a) λa=>New (.cells Zk 247 (0,0))<|gh λb=>Sto 4 b a<|gh λ_=>Lf 0 b λa=>Pv (AA .eql a (.int .i64 2)) λa=>Gd a false (Lf 0 b λa=>Pv (AA .eql a (.int .i64 5)) λa=>Gd a true (Lf 2 b λa=>Pv (BB .eql a a1) λa=>K a) (K Bf)) (Lf 2 b λa=>Pv (BB .eql a a1) λa=>K a)
def AOR:=zkc2 AKZ 154 Tryz.func154
def AKY (ω:Om)(a0:Value)(K:Value→M)(Pn:Value→M):M:=Pv (Ad a0) λa=>Lf 0 a λa=>Pv (ixV 4 a I0) λa=>Lf 1 a λa=>Pv (AU #[I0] #[(0,1)] [(0,a)]) λa=>Pn (Value.iface 241 a)
def AOQ:=zkp1 AKY 155 Tryz.func155
def AAG (ω:Om)(p2 p3:Value)(p4 p5:Value)(K:Value→M):M:=Bg λS=>Rs S (BF p4) λa=>Rs S (BF p5) λb=>K (Value.tuple #[a,b])
def AAH (ω:Om)(p2 p3:Value)(p4 p5:Value)(p10 p11 x12:Value)(Kn0:(Value×Unit)→M)(K:Value→M):M:=Pv (AA .lss x12 p11) λa=>Br a (Pv (ixV 51 p10 x12) λa=>Rn (AB 51 a) λa=>New (.cells Zf 76 (0,0))<|gh λb=>Sto 51 b a<|gh λ_=>Rn (AB 51 b) λa=>CT ω 196 #[a,(Value.func (Fn.func 197) #[] #[p4,p5])]<|gh λ_=>Pv (AA .add x12 (.int .i64 1)) λa=>Kn0 (a,())) (AAG ω p2 p3 p4 p5 K)
def AKX (ω:Om)(a0:Value)(K:Value→M):M:=Pv (lenV a0) λa=>New (.cells #[I0] 3 (0,0))<|gh λb=>New (.cells #[I0] 3 (0,0))<|gh λc=>Sto 1 b a<|gh λ_=>Sto 1 c I0<|gh λ_=>Pv (lenV a0) λa=>Aq ((I0,()):Value×Unit) λs d=>AAH ω I0 I0 b c a0 a s.1 d K
def AOP:=zkc1 AKX 156 Tryz.func156
def AKW (ω:Om)(a0 a1:Value)(K:Value→M):M:=Pv (Ad a0) λa=>Pv (MZ 1 256 a a1) λa=>Rn (BF a) λa=>K a
def AOO:=zkc2 AKW 178 Tryz.func178
def AKV (ω:Om)(K:Value→M):M:=CT ω 212 #[(zS [97,110,100,32,97,115,32,97,115,99,32,98,101,103,105,110,32,98,101,116,119,101,101,110,32,98,121,32,99,97,115,101,32,99,111,109,109,105,116,32,99,114,101,97,116,101,32,99,114,111,115,115,32,100,101,102,97,117,108,116,32,100,101,108,101,116,101,32,100,101,115,99,32,100,105,115,116,105,110,99,116,32,100,114,111,112,32,101,108,115,101,32,101,110,100,32,102,97,108,115,101,32,102,114,111,109,32,103,114,111,117,112,32,104,97,118,105,110,103,32,105,110,32,105,110,100,101,120,32,105,110,110,101,114,32,105,110,115,101,114,116,32,105,110,116,111,32,105,115,32,106,111,105,110,32,107,101,121,32,108,101,102,116,32,108,105,107,101,32,108,105,109,105,116,32,110,111,116,32,110,117,108,108,32,111,102,102,115,101,116,32,111,110,32,111,114,32,111,114,100,101,114,32,112,114,105,109,97,114,121,32,114,111,108,108,98,97,99,107,32,115,101,108,101,99,116,32,115,101,116,32,116,97,98,108,101,32,116,104,101,110,32,116,114,117,101,32,117,110,105,113,117,101,32,117,112,100,97,116,101,32,118,97,108,117,101,115,32,119,104,101,110,32,119,104,101,114,101])]<|gh λa=>K a
def AON:=zkc0 AKV 182 Tryz.func182
def AAF (ω:Om)(p0:Value)(Kn0:(Unit)→M)(K:Value→M):M:=Bg λS=>Pv (Ad p0) λa=>Lg S 1 a λa=>Pv (Ad p0) λb=>Lg S 0 b λb=>Pv (BP b) λb=>Pv (AA .lss a b) λa=>Br a (Bg λS=>Pv (Ad p0) λa=>Lg S 0 a λa=>Pv (Ad p0) λb=>Lg S 1 b λb=>Pv (Ei a b) λa=>CT ω 120 #[(zS [9,10,12,13,32]),a]<|gh λa=>Pv (AA .geq a I0) λa=>Br a (Pv (Ad p0) λa=>Lf 1 a λa=>Pv (AA .add a (.int .i64 1)) λa=>Pv (Ad p0) λb=>Pv (Ae 1 b) λb=>Sto 1 b a<|gh λ_=>Kn0 (())) (Bg λS=>Pv (Ad p0) λa=>Lg S 0 a λa=>Pv (Ad p0) λb=>Lg S 1 b λb=>Pv (DT a (some b) none) λa=>CT ω 213 #[a,(zS [45,45])]<|gh λa=>Br a (Bg λS=>Pv (Ad p0) λa=>Lg S 0 a λa=>Pv (Ad p0) λb=>Lg S 1 b λb=>Pv (DT a (some b) none) λa=>CT ω 120 #[a,(.int .u8 10)]<|gh λa=>Pv (AA .lss a I0) λb=>Br b (Pv (Ad p0) λa=>Lf 0 a λa=>Pv (BP a) λa=>Pv (Ad p0) λb=>Pv (Ae 1 b) λb=>Sto 1 b a<|gh λ_=>K (Value.tuple #[])) (Pv (Ad p0) λb=>Lf 1 b λb=>Pv (AA .add b a) λa=>Pv (Ad p0) λb=>Pv (Ae 1 b) λb=>Sto 1 b a<|gh λ_=>Kn0 (()))) (K (Value.tuple #[])))) (K (Value.tuple #[]))
def AKU (ω:Om)(a0:Value)(K:Value→M):M:=Aq ((()):Unit) λs Kn0=>AAF ω a0 Kn0 K
def AOM:=zkc1 AKU 183 Tryz.func183
def sh184_3 (ω:Om)(p2 p3 p4:Value)(K:Value→M):M:=Rn (AB 4 p4) λa=>Sto 4 p2 a<|gh λ_=>Rn (AB 4 p2) λa=>K (Value.tuple #[a,I0])
def sh184_1 (ω:Om)(p2 p3 p4:Value)(K:Value→M):M:=Lf 2 p4 λa=>Pv (BP a) λa=>Pv (AA .gtr a (.int .i64 63)) λa=>Br a (Rn (AB 4 p4) λa=>Sto 4 p2 a<|gh λ_=>Rn (AB 4 p2) λa=>K (Value.tuple #[a,(.int .i64 173)])) (sh184_3 ω p2 p3 p4 K)
def AAC (ω:Om)(p2 p3 p4:Value)(K:Value→M):M:=Rn (AB 4 p4) λa=>Sto 4 p2 a<|gh λ_=>Rn (AB 4 p2) λa=>K (Value.tuple #[a,(.int .i64 172)])
def OM (ω:Om)(p2 p3 p4:Value)(K:Value→M):M:=Rn (AB 4 p4) λa=>Sto 4 p2 a<|gh λ_=>Rn (AB 4 p2) λa=>K (Value.tuple #[a,I0])
def AAD (ω:Om)(p0 p2:Value)(p3 p4:Value)(K:Value→M):M:=Bg λS=>Pv (Ad p0) λa=>Lg S 1 a λa=>Pv (Ad p0) λb=>Lg S 0 b λb=>Pv (BP b) λb=>Pv (AA .lss a b) λa=>Gd a true (Pv (Ad p0) λa=>Lg S 0 a λa=>Pv (Ad p0) λb=>Lg S 1 b λb=>Pv (Ei a b) λa=>CT ω 214 #[a]<|gh λa=>Br a (AAC ω p2 p3 p4 K) (OM ω p2 p3 p4 K)) (OM ω p2 p3 p4 K)
def AAE (ω:Om)(p0 p2:Value)(p4 p56 x3:Value)(Kn0:(Value×Unit)→M)(K:Value→M):M:=ACu p56<|gh λa=>Pv (exV a 0) λb=>Br b (Pv (exV a 2) λa=>Lf 3 p4 λb=>Pv (AA .sub a (.int .i32 48)) λc=>Pv (GG .i64 c) λc=>Pv (AA .sub (.int .i64 9223372036854775807) c) λc=>Pv (AA .quo c (.int .i64 10)) λc=>Pv (AA .gtr b c) λb=>Br b (Rn (AB 4 p4) λa=>Sto 4 p2 a<|gh λ_=>Rn (AB 4 p2) λa=>K (Value.tuple #[a,(.int .i64 172)])) (Lf 3 p4 λb=>Pv (AA .mul (.int .i64 10) b) λb=>Pv (AA .sub a (.int .i32 48)) λa=>Pv (GG .i64 a) λa=>Pv (AA .add b a) λa=>Pv (Ae 3 p4) λb=>Sto 1 b a<|gh λ_=>Kn0 (x3,()))) (AAD ω p0 p2 x3 p4 K)
def sh184_11 (ω:Om)(p2 p3:Value)(p4 p9:Value)(K:Value→M):M:=Pv (unV .not p9) λa=>Br a (Rn (AB 4 p4) λa=>Sto 4 p2 a<|gh λ_=>Rn (AB 4 p2) λa=>K (Value.tuple #[a,(.int .i64 173)])) (sh184_3 ω p2 p3 p4 K)
def Ik (ω:Om)(p0 p2:Value)(p3 p4:Value)(p5 p100:Value)(K:Value→M):M:=Br p100 (CT ω 221 #[p0,p5]<|gh λa=>Pv (exV a 0) λb=>Pv (exV a 1) λa=>Pv (Ae 0 p4) λc=>Sto 1 c (.int .i64 4)<|gh λ_=>Pv (Ae 2 p4) λc=>Sto 1 c b<|gh λ_=>Pv (AA .eql p5 (.int .u8 34)) λc=>Br c (Pv (Ae 0 p4) λc=>Sto 1 c (.int .i64 1)<|gh λ_=>Gd a true (Pv (BB .neq b Q0) λa=>Gd a true (Pv (BP b) λa=>Pv (AA .leq a (.int .i64 63)) λa=>sh184_11 ω p2 p3 p4 a K) (sh184_11 ω p2 p3 p4 Bf K)) (sh184_11 ω p2 p3 p4 Bf K)) (sh184_11 ω p2 p3 p4 a K)) (Rn (AB 4 p4) λa=>CT ω 222 #[p0,a]<|gh λa=>Pv (exV a 0) λb=>Pv (exV a 1) λa=>Sto 4 p2 b<|gh λ_=>Rn (AB 4 p2) λb=>K (Value.tuple #[b,a]))
def AKT (ω:Om)(a0:Value)(K:Value→M):M:=New (.cells Zk 247 (0,0))<|gh λa=>Pv (Ad a0) λb=>Lf 1 b λb=>Pv (AU Zk Zq [(1,b)]) λb=>New (.cells Zk 247 (0,0))<|gh λc=>Sto 4 c b<|gh λ_=>Bg λS=>Pv (Ad a0) λb=>Lg S 0 b λb=>Pv (Ad a0) λd=>Lg S 1 d λd=>Pv (Ei b d) λb=>CT ω 214 #[b]<|gh λd=>Br d (CT ω 217 #[a0,(Value.func (.func 218) #[] #[])]<|gh λb=>CT ω 215 #[(Value.func (.func 216) #[] #[]),b]<|gh λb=>Pv (Ae 0 c) λd=>Sto 1 d (.int .i64 1)<|gh λ_=>Pv (Ae 2 c) λd=>Sto 1 d b<|gh λ_=>Bg λS=>Pv (Ad a0) λb=>Lg S 2 b λb=>Lg S 2 c λd=>CT ω 220 #[b,d]<|gh λb=>Br b (Pv (Ae 0 c) λb=>Sto 1 b (.int .i64 2)<|gh λ_=>sh184_1 ω a I0 c K) (sh184_1 ω a I0 c K)) (CT ω 219 #[b]<|gh λd=>Br d (Pv (Ae 0 c) λb=>Sto 1 b (.int .i64 3)<|gh λ_=>CT ω 217 #[a0,(Value.func (.func 219) #[] #[])]<|gh λb=>AHS b<|gh λb=>Aq ((I0,()):Value×Unit) λs d=>AAE ω a0 a c b s.1 d K) (Pv (AA .eql b (.int .u8 34)) λd=>Br d (Ik ω a0 a I0 c b d K) (Pv (AA .eql b (.int .u8 39)) λd=>Ik ω a0 a I0 c b d K)))
def AOL:=zkc1 AKT 184 Tryz.func184
def AKS (ω:Om)(a0:Value)(K:Value→M):M:=New (.cells Zk 247 (0,0))<|gh λa=>Pv (Ad a0) λb=>Lf 0 b λb=>Pv (ixV 4 b I0) λb=>Rn (AB 4 b) λb=>New (.cells Zk 247 (0,0))<|gh λc=>Sto 4 c b<|gh λ_=>Pv (Ad a0) λb=>Lf 0 b λb=>Pv (Bi 4 b (some (.int .i64 1)) none none) λb=>Pv (Ad a0) λd=>Pv (Ae 0 d) λd=>Sto 1 d b<|gh λ_=>Rn (AB 4 c) λb=>Sto 4 a b<|gh λ_=>Rn (AB 4 a) λa=>K a
def AOK:=zkc1 AKS 185 Tryz.func185
def OG (ω:Om)(p2 p3:Value)(K:Value→M)(Pn:Value→M):M:=Rn (AB 29 p3) λa=>Sto 29 p2 a<|gh λ_=>Rn (AB 29 p2) λa=>K a
def OH (ω:Om)(p0 p2 p3:Value)(K:Value→M)(Pn:Value→M):M:=AP Tryz.prog ω 152 #[p0,(zS [111,102,102,115,101,116])] Pn<|gh λa=>Br a (AP Tryz.prog ω 230 #[p0] Pn<|gh λa=>Pv (Ae 28 p3) λb=>Sto 1 b a<|gh λ_=>OG ω p2 p3 K Pn) (OG ω p2 p3 K Pn)
def OI (ω:Om)(p0 p2 p3:Value)(K:Value→M)(Pn:Value→M):M:=AP Tryz.prog ω 152 #[p0,(zS [108,105,109,105,116])] Pn<|gh λa=>Br a (AP Tryz.prog ω 230 #[p0] Pn<|gh λa=>Pv (Ae 27 p3) λb=>Sto 1 b a<|gh λ_=>OH ω p0 p2 p3 K Pn) (OH ω p0 p2 p3 K Pn)
def OJ (ω:Om)(p0 p2 p3:Value)(K:Value→M)(Pn:Value→M):M:=AP Tryz.prog ω 194 #[p0,(zS [104,97,118,105,110,103])] Pn<|gh λa=>Pv (Ae 15 p3) λb=>Sto 11 b a<|gh λ_=>AP Tryz.prog ω 152 #[p0,(zS [111,114,100,101,114])] Pn<|gh λa=>Br a (AC 9 1 Za 1 [(0,(zS [98,121]))]<|gh λa=>AP Tryz.prog ω 187 #[p0,a] Pn<|gh λ_=>AP Tryz.prog ω 228 #[p0,(Value.func (Fn.func 229) #[p0] #[])] Pn<|gh λa=>Pv (Ae 26 p3) λb=>Sto 1 b a<|gh λ_=>OI ω p0 p2 p3 K Pn) (OI ω p0 p2 p3 K Pn)
def OL (ω:Om)(p0 p2 p3:Value)(K:Value→M)(Pn:Value→M):M:=AP Tryz.prog ω 194 #[p0,(zS [119,104,101,114,101])] Pn<|gh λa=>Pv (Ae 3 p3) λb=>Sto 11 b a<|gh λ_=>AP Tryz.prog ω 152 #[p0,(zS [103,114,111,117,112])] Pn<|gh λa=>Br a (AC 9 1 Za 1 [(0,(zS [98,121]))]<|gh λa=>AP Tryz.prog ω 187 #[p0,a] Pn<|gh λ_=>AP Tryz.prog ω 226 #[p0,(Value.func (Fn.func 227) #[p0] #[])] Pn<|gh λa=>Pv (Ae 14 p3) λb=>Sto 1 b a<|gh λ_=>OJ ω p0 p2 p3 K Pn) (OJ ω p0 p2 p3 K Pn)
def AKR (ω:Om)(a0:Value)(K:Value→M)(Pn:Value→M):M:=New (.cells Zd1 68 (0,0))<|gh λa=>AP Tryz.prog ω 152 #[a0,(zS [100,105,115,116,105,110,99,116])] Pn<|gh λb=>Pv (AU Zd1 #[(0,1),(1,1),(2,1),(3,11),(14,1),(15,11),(26,1),(27,1),(28,1)] [(7,(.int .i64 (-1))),(0,b)]) λb=>New (.cells Zd1 68 (0,0))<|gh λc=>Sto 29 c b<|gh λ_=>AP Tryz.prog ω 223 #[a0,(Value.func (Fn.func 224) #[a0] #[])] Pn<|gh λb=>Pv (Ae 1 c) λd=>Sto 1 d b<|gh λ_=>AP Tryz.prog ω 152 #[a0,(zS [102,114,111,109])] Pn<|gh λb=>Br b (AP Tryz.prog ω 225 #[a0] Pn<|gh λb=>Pv (Ae 2 c) λd=>Sto 1 d b<|gh λ_=>OL ω a0 a c K Pn) (OL ω a0 a c K Pn)
def AOJ:=zkp1 AKR 186 Tryz.func186
def Tt (ω:Om)(p8:Value)(Kn0:(Value×Unit)→M)(K:Value→M)(Pn:Value→M):M:=Pv (AA .add p8 (.int .i64 1)) λa=>Kn0 (a,())
def AAB (ω:Om)(p0 p6:Value)(p7 x8:Value)(Kn0:(Value×Unit)→M)(K:Value→M)(Pn:Value→M):M:=Pv (AA .lss x8 p7) λa=>Br a (Pv (ixV 1 p6 x8) λa=>Rn (BF a) λa=>AP Tryz.prog ω 152 #[p0,a] Pn<|gh λa=>Pv (unV .not a) λa=>Br a (AP Tryz.prog ω 155 #[p0] Pn<|gh λ_=>Tt ω x8 Kn0 K Pn) (Tt ω x8 Kn0 K Pn)) (K (Value.tuple #[]))
def AKQ (ω:Om)(a0 a1:Value)(K:Value→M)(Pn:Value→M):M:=Pv (lenV a1) λa=>Aq ((I0,()):Value×Unit) λs b=>AAB ω a0 a1 a s.1 b K Pn
def AOI:=zkp2 AKQ 187 Tryz.func187
def AKP (ω:Om)(a0:Value)(K:Value→M)(Pn:Value→M):M:=AP Tryz.prog ω 231 #[a0,(.int .i64 1)] Pn<|gh λa=>Pv (FK false 2 1 a) λa=>K a
def AOH:=zkp1 AKP 188 Tryz.func188
def AKO (ω:Om)(a0:Value)(K:Value→M)(Pn:Value→M):M:=AP Tryz.prog ω 232 #[a0,(Value.func (Fn.func 188) #[a0] #[])] Pn<|gh λa=>K a
def AOG:=zkp1 AKO 189 Tryz.func189
def ZZ (ω:Om)(p4 p5:Value)(K:Value→M)(Pn:Value→M):M:=AP Tryz.prog ω 233 #[p5] Pn<|gh λa=>K a
def AAA (ω:Om)(p0 p1:Value)(p4 x5:Value)(Kn0:(Value×Unit)→M)(K:Value→M)(Pn:Value→M):M:=AP Tryz.prog ω 152 #[p0,(zS [44])] Pn<|gh λa=>Br a (Gp Tryz.prog ω p1 #[] Pn<|gh λa=>AC 63 1 #[S0] 1 [(0,a)]<|gh λa=>App 63 1 24 #[S0] x5 a<|gh λa=>Kn0 (a,())) (ZZ ω p4 x5 K Pn)
def AKN (ω:Om)(a0 a1:Value)(K:Value→M)(Pn:Value→M):M:=Gp Tryz.prog ω a1 #[] Pn<|gh λa=>AC 63 1 #[S0] 1 [(0,a)]<|gh λa=>Aq ((a,()):Value×Unit) λs a=>AAA ω a0 a1 S0 s.1 a K Pn
def AOF:=zkp2 AKN 190 Tryz.func190
def AKM (ω:Om)(a0:Value)(K:Value→M)(Pn:Value→M):M:=AP Tryz.prog ω 234 #[a0,(Value.func (Fn.func 227) #[a0] #[])] Pn<|gh λa=>K a
def AOE:=zkp1 AKM 191 Tryz.func191
def ZX (ω:Om)(p4 p5:Value)(K:Value→M)(Pn:Value→M):M:=AP Tryz.prog ω 235 #[p5] Pn<|gh λa=>K a
def ZY (ω:Om)(p0 p1:Value)(p4 x5:Value)(Kn0:(Value×Unit)→M)(K:Value→M)(Pn:Value→M):M:=AP Tryz.prog ω 152 #[p0,(zS [44])] Pn<|gh λa=>Br a (Gp Tryz.prog ω p1 #[] Pn<|gh λa=>AC 128 12 Zt 1 [(0,a)]<|gh λa=>App 128 12 144 Zt x5 a<|gh λa=>Kn0 (a,())) (ZX ω p4 x5 K Pn)
def AKL (ω:Om)(a0 a1:Value)(K:Value→M)(Pn:Value→M):M:=Gp Tryz.prog ω a1 #[] Pn<|gh λa=>AC 128 12 Zt 1 [(0,a)]<|gh λa=>Aq ((a,()):Value×Unit) λs a=>ZY ω a0 a1 S0 s.1 a K Pn
def AOD:=zkp2 AKL 192 Tryz.func192
def AKK (ω:Om)(a0:Value)(K:Value→M)(Pn:Value→M):M:=New (.cells Zt 128 (0,0))<|gh λa=>AP Tryz.prog ω 188 #[a0] Pn<|gh λb=>Pv (AU Zt #[(0,1),(1,11)] [(0,b)]) λb=>New (.cells Zt 128 (0,0))<|gh λc=>Sto 12 c b<|gh λ_=>AC 9 1 Za 1 [(0,(zS [61]))]<|gh λb=>AP Tryz.prog ω 187 #[a0,b] Pn<|gh λ_=>AP Tryz.prog ω 227 #[a0] Pn<|gh λb=>Pv (Ae 1 c) λd=>Sto 11 d b<|gh λ_=>Rn (AB 12 c) λb=>Sto 12 a b<|gh λ_=>Rn (AB 12 a) λa=>K a
def AOC:=zkp1 AKK 193 Tryz.func193
def AKJ (ω:Om)(a0 a1:Value)(K:Value→M)(Pn:Value→M):M:=New (.cells Zb 65 (0,0))<|gh λa=>AP Tryz.prog ω 152 #[a0,a1] Pn<|gh λb=>Pv (unV .not b) λb=>Br b (Pv (AU Zb Zo []) λb=>Sto 11 a b<|gh λ_=>Rn (AB 11 a) λa=>K a) (AP Tryz.prog ω 227 #[a0] Pn<|gh λb=>Sto 11 a b<|gh λ_=>Rn (AB 11 a) λa=>K a)
def AOB:=zkp2 AKJ 194 Tryz.func194
def AKI (ω:Om)(a0:Value)(K:Value→M)(Pn:Value→M):M:=New (.cells Zf 76 (0,0))<|gh λa=>AP Tryz.prog ω 152 #[a0,(zS [116,97,98,108,101])] Pn<|gh λb=>Br b (AP Tryz.prog ω 236 #[a0] Pn<|gh λb=>Sto 51 a b<|gh λ_=>Rn (AB 51 a) λa=>K a) (AP Tryz.prog ω 152 #[a0,(zS [117,110,105,113,117,101])] Pn<|gh λb=>Pv (AU Zc1 Zq [(3,b)]) λb=>New (.cells Zc1 74 (0,0))<|gh λc=>Sto 4 c b<|gh λ_=>AC 9 1 Za 1 [(0,(zS [105,110,100,101,120]))]<|gh λb=>AP Tryz.prog ω 187 #[a0,b] Pn<|gh λ_=>AP Tryz.prog ω 188 #[a0] Pn<|gh λb=>Pv (Ae 0 c) λd=>Sto 1 d b<|gh λ_=>AC 9 1 Za 1 [(0,(zS [111,110]))]<|gh λb=>AP Tryz.prog ω 187 #[a0,b] Pn<|gh λ_=>AP Tryz.prog ω 188 #[a0] Pn<|gh λb=>Pv (Ae 1 c) λd=>Sto 1 d b<|gh λ_=>AP Tryz.prog ω 189 #[a0] Pn<|gh λb=>Pv (Ae 2 c) λd=>Sto 1 d b<|gh λ_=>Rn (AB 4 c) λb=>Pv (AU Zf Zn [(0,(.int .i64 6)),(9,b)]) λb=>Sto 51 a b<|gh λ_=>Rn (AB 51 a) λa=>K a)
def AOA:=zkp1 AKI 195 Tryz.func195
def Kq (ω:Om)(p116:Value)(Kn6:(Value×Unit)→M)(K:Value→M):M:=Pv (AA .add p116 (.int .i64 1)) λa=>Kn6 (a,())
def VF (ω:Om)(p4 p114:Value)(p115 x116:Value)(Kn6:(Value×Unit)→M)(K:Value→M):M:=Pv (AA .lss x116 p115) λa=>Br a (Pv (ixV 11 p114 x116) λa=>Rn (AB 11 a) λa=>New (.cells Zb 65 (0,0))<|gh λb=>Sto 11 b a<|gh λ_=>Lf 0 b λa=>Pv (AA .neq a I0) λa=>Br a (Rn (BF p4) λa=>Rn (AB 11 b) λb=>CW ω a #[b,(.int .i64 1)]<|gh λ_=>Kq ω x116 Kn6 K) (Kq ω x116 Kn6 K)) (K (Value.tuple #[]))
def Kr (ω:Om)(p4 p5:Value)(K:Value→M):M:=Pv (lenV p5) λa=>Aq ((I0,()):Value×Unit) λs b=>VF ω p4 p5 a s.1 b K
def PI (ω:Om)(p4 p102:Value)(p103 x5 x104:Value)(Kn5:(Value×Value×Unit)→M)(K:Value→M):M:=Pv (AA .lss x104 p103) λa=>Br a (Pv (ixV 16 p102 x104) λa=>Rn (AB 16 a) λa=>New (.cells Zx 130 (0,0))<|gh λb=>Sto 16 b a<|gh λ_=>Pv (Ae 5 b) λa=>Rn (AB 11 a) λa=>AC 65 11 Zb 1 [(0,a)]<|gh λa=>App 65 11 128 Zb x5 a<|gh λa=>Pv (AA .add x104 (.int .i64 1)) λb=>Kn5 (a,b,())) (Kr ω p4 x5 K)
def PK (ω:Om)(p2 p4 p5:Value)(K:Value→M):M:=Lf 45 p2 λa=>Pv (lenV a) λb=>Aq ((p5,I0,()):Value×Value×Unit) λs c=>PI ω p4 a b s.1 s.2.1 c K
def PL (ω:Om)(p2 p4:Value)(p89 p90:Value)(x5 x91:Value)(Kn4:(Value×Value×Unit)→M)(K:Value→M):M:=Pv (AA .lss x91 p90) λa=>Br a (Pv (ixV 12 p89 x91) λa=>Rn (AB 12 a) λa=>New (.cells Zt 128 (0,0))<|gh λb=>Sto 12 b a<|gh λ_=>Pv (Ae 1 b) λa=>Rn (AB 11 a) λa=>AC 65 11 Zb 1 [(0,a)]<|gh λa=>App 65 11 128 Zb x5 a<|gh λa=>Pv (AA .add x91 (.int .i64 1)) λb=>Kn4 (a,b,())) (PK ω p2 p4 x5 K)
def PM (ω:Om)(p2 p4 p5:Value)(K:Value→M):M:=Lf 33 p2 λa=>Pv (lenV a) λb=>Aq ((p5,I0,()):Value×Value×Unit) λs c=>PL ω p2 p4 a b s.1 s.2.1 c K
def PN (ω:Om)(p2 p4:Value)(p78 p79:Value)(x5 x80:Value)(Kn3:(Value×Value×Unit)→M)(K:Value→M):M:=Pv (AA .lss x80 p79) λa=>Br a (Pv (ixV 1 p78 x80) λa=>Rn (BF a) λa=>App 65 11 128 Zb x5 a<|gh λa=>Pv (AA .add x80 (.int .i64 1)) λb=>Kn3 (a,b,())) (PM ω p2 p4 x5 K)
def Tc (ω:Om)(p2 p4 p5:Value)(K:Value→M):M:=Lf 32 p2 λa=>Pv (lenV a) λb=>Aq ((p5,I0,()):Value×Value×Unit) λs c=>PN ω p2 p4 a b s.1 s.2.1 c K
def Tf (ω:Om)(p2 p4:Value)(p65 p66:Value)(x5 x67:Value)(Kn2:(Value×Value×Unit)→M)(K:Value→M):M:=Pv (AA .lss x67 p66) λa=>Br a (Pv (ixV 12 p65 x67) λa=>Rn (AB 12 a) λa=>New (.cells Zu 166 (0,0))<|gh λb=>Sto 12 b a<|gh λ_=>Pv (Ae 0 b) λa=>Rn (AB 11 a) λa=>AC 65 11 Zb 1 [(0,a)]<|gh λa=>App 65 11 128 Zb x5 a<|gh λa=>Pv (AA .add x67 (.int .i64 1)) λb=>Kn2 (a,b,())) (Tc ω p2 p4 x5 K)
def Ti (ω:Om)(p2 p4 p5:Value)(K:Value→M):M:=Pv (Ae 1 p2) λa=>Lf 26 a λa=>Pv (lenV a) λb=>Aq ((p5,I0,()):Value×Value×Unit) λs c=>Tf ω p2 p4 a b s.1 s.2.1 c K
def Tj (ω:Om)(p2 p4:Value)(p51 p52:Value)(x5 x53:Value)(Kn1:(Value×Value×Unit)→M)(K:Value→M):M:=Pv (AA .lss x53 p52) λa=>Br a (Pv (ixV 14 p51 x53) λa=>Rn (AB 14 a) λa=>New (.cells Zl 164 (0,0))<|gh λb=>Sto 14 b a<|gh λ_=>Pv (Ae 3 b) λa=>Rn (AB 11 a) λa=>AC 65 11 Zb 1 [(0,a)]<|gh λa=>App 65 11 128 Zb x5 a<|gh λa=>Pv (AA .add x53 (.int .i64 1)) λb=>Kn1 (a,b,())) (Ti ω p2 p4 x5 K)
def Tm (ω:Om)(p2 p4 p5:Value)(K:Value→M):M:=Pv (Ae 1 p2) λa=>Lf 2 a λa=>Pv (lenV a) λb=>Aq ((p5,I0,()):Value×Value×Unit) λs c=>Tj ω p2 p4 a b s.1 s.2.1 c K
def Tq (ω:Om)(p2 p4:Value)(p37 p38:Value)(x5 x39:Value)(Kn0:(Value×Value×Unit)→M)(K:Value→M):M:=Pv (AA .lss x39 p38) λa=>Br a (Pv (ixV 14 p37 x39) λa=>Rn (AB 14 a) λa=>New (.cells Zh 162 (0,0))<|gh λb=>Sto 14 b a<|gh λ_=>Pv (Ae 2 b) λa=>Rn (AB 11 a) λa=>AC 65 11 Zb 1 [(0,a)]<|gh λa=>App 65 11 128 Zb x5 a<|gh λa=>Pv (AA .add x39 (.int .i64 1)) λb=>Kn0 (a,b,())) (Tm ω p2 p4 x5 K)
def AKH (ω:Om)(a0 a1:Value)(K:Value→M):M:=New (.cells (Value.cells a0) 76 (0,0))<|gh λa=>New (.cells (Value.cells a1) 277 (0,0))<|gh λb=>New (.cells #[Value.nilFunc] 277 (0,0))<|gh λc=>Sto 1 c (Value.func (Fn.func 237) #[] #[b,c])<|gh λ_=>Pv (Ae 34 a) λb=>Rn (AB 11 b) λb=>Pv (Ae 1 a) λd=>Pv (Ae 3 d) λd=>Rn (AB 11 d) λd=>Pv (Ae 1 a) λe=>Pv (Ae 15 e) λe=>Rn (AB 11 e) λe=>AC 65 11 Zb 3 [(0,b),(1,d),(2,e)]<|gh λb=>Pv (Ae 1 a) λd=>Lf 14 d λd=>App 65 11 128 Zb b d<|gh λb=>Pv (Ae 1 a) λd=>Lf 1 d λd=>Pv (lenV d) λe=>Aq ((b,I0,()):Value×Value×Unit) λs b=>Tq ω a c d e s.1 s.2.1 b K
def ANz:=zkc2 AKH 196 Tryz.func196
def AEN (ω:Om)(a0 a1:Value)(a2 a3:Value)(K:Value→M):M:=New (.cells (Value.cells a0) 65 (0,0))<|gh λ_=>Rn (BF a2) λa=>Pv (AA .add a (.int .i64 1)) λa=>Sto 1 a2 a<|gh λ_=>Rn (BF a3) λa=>Pv (AFb a a1) λa=>Sto 1 a3 a<|gh λ_=>K (Value.tuple #[])
def ANy:=zkc4 AEN 197 Tryz.func197
def ZR (ω:Om)(p0 p10:Value)(p11 x12:Value)(Kn2:(Value×Value×Value×Unit)→M)(Kn3:(Value×Unit)→M)(K:Value→M):M:=Pv (BP p0) λa=>Pv (AA .lss x12 a) λa=>Gd a true (Pv (Ei p0 x12) λa=>Pv (MZ 1 256 (.pointer (some ⟨6,0,none⟩)) a) λa=>Rn (BF a) λa=>Pv (AA .neq a (.int .u8 0)) λa=>Br a (Pv (AA .add x12 (.int .i64 1)) λa=>Kn3 (a,())) (Kn2 (p10,x12,x12,()))) (Kn2 (p10,x12,x12,()))
def VE (ω:Om)(p0 p2:Value)(p9 p10 p11:Value)(K:Value→M):M:=Pv (BP p0) λa=>Pv (AA .lss p11 a) λa=>Br a (Pv (DT p0 (some p11) none) λa=>Pv (ixV 1 p9 p10) λb=>Sto 1 b a<|gh λ_=>K p9) (K p9)
def ZT (ω:Om)(p0 p2:Value)(p9 x10:Value)(x11 x12:Value)(Kn2:(Value×Value×Value×Unit)→M)(K:Value→M):M:=Pv (BP p0) λa=>Pv (AA .lss x12 a) λa=>Br a (Pv (Ei p0 x12) λa=>Pv (MZ 1 256 (.pointer (some ⟨6,0,none⟩)) a) λa=>Rn (BF a) λa=>Pv (AA .eql a (.int .u8 0)) λa=>Br a (Pv (AA .add x12 (.int .i64 1)) λa=>Kn2 (x10,x11,a,())) (Pv (DT p0 (some x11) (some x12)) λa=>Pv (ixV 1 p9 x10) λb=>Sto 1 b a<|gh λ_=>Pv (AA .add x10 (.int .i64 1)) λa=>Pv (AA .add x12 (.int .i64 1)) λb=>Aq ((b,()):Value×Unit) λs b=>ZR ω p0 a x11 s.1 Kn2 b K)) (VE ω p0 p2 p9 x10 x11 K)
def TZ (ω:Om)(p0 p2:Value)(p9 p10:Value)(p11 p12:Value)(K:Value→M):M:=Aq ((p10,p12,p12,()):Value×Value×Value×Unit) λs Kn2=>ZT ω p0 p2 p9 s.1 s.2.1 s.2.2.1 Kn2 K
def ZU (ω:Om)(p0 p2:Value)(p9 p10:Value)(p11 x12:Value)(Kn1:(Value×Unit)→M)(K:Value→M):M:=Pv (BP p0) λa=>Pv (AA .lss x12 a) λa=>Gd a true (Pv (Ei p0 x12) λa=>Pv (MZ 1 256 (.pointer (some ⟨6,0,none⟩)) a) λa=>Rn (BF a) λa=>Pv (AA .neq a (.int .u8 0)) λa=>Br a (Pv (AA .add x12 (.int .i64 1)) λa=>Kn1 (a,())) (TZ ω p0 p2 p9 p10 p11 x12 K)) (TZ ω p0 p2 p9 p10 p11 x12 K)
def ZV (ω:Om)(p0 p2:Value)(p3 p5:Value)(K:Value→M):M:=Pv (AA .geq p5 (.int .u8 128)) λa=>Br a (CT ω 245 #[p0,(Value.func (.func 246) #[] #[])]<|gh λa=>K a) (MkS 9 16 Za p3 p3<|gh λa=>Aq ((I0,()):Value×Unit) λs b=>ZU ω p0 p2 a I0 I0 s.1 b K)
def ZW (ω:Om)(p0 p2:Value)(x3 x4:Value)(x5 x6:Value)(Kn0:(Value×Value×Value×Value×Unit)→M)(K:Value→M):M:=Pv (BP p0) λa=>Pv (AA .lss x6 a) λa=>Br a (Pv (Ei p0 x6) λa=>Pv (AA .or x5 a) λb=>Pv (MZ 1 256 (.pointer (some ⟨6,0,none⟩)) a) λa=>Rn (BF a) λa=>Pv (GG .i64 a) λa=>Pv (unV .xor a) λc=>Pv (AA .and x4 c) λc=>Pv (AA .add x3 c) λc=>Pv (AA .add x6 (.int .i64 1)) λd=>Kn0 (c,a,b,d,())) (ZV ω p0 p2 x3 x5 K)
def AKG (ω:Om)(a0:Value)(K:Value→M):M:=Aq ((I0,(.int .i64 1),(.int .u8 0),I0,()):Value×Value×Value×Value×Unit) λs Kn0=>ZW ω a0 S0 s.1 s.2.1 s.2.2.1 s.2.2.2.1 Kn0 K
def ANx:=zkc1 AKG 212 Tryz.func212
def AKF (ω:Om)(a0 a1:Value)(K:Value→M):M:=CT ω 247 #[a0,a1]<|gh λa=>K a
def ANw:=zkc2 AKF 213 Tryz.func213
def AKE (ω:Om)(a0:Value)(K:Value→M):M:=Pv (AA .eql a0 (.int .u8 95)) λa=>Gd a false (Pv (AA .or a0 (.int .u8 32)) λa=>Pv (AA .geq a (.int .u8 97)) λa=>Gd a true (Pv (AA .or a0 (.int .u8 32)) λa=>Pv (AA .leq a (.int .u8 122)) λa=>K a) (K Bf)) (K Bt)
def ANv:=zkc1 AKE 214 Tryz.func214
def VD (ω:Om)(p4 p5:Value)(K:Value→M):M:=CT ω 254 #[p5]<|gh λa=>K a
def ZO (ω:Om)(p0 p4:Value)(p5 p68:Value)(Kn1:(Unit)→M)(K:Value→M):M:=ACu p68<|gh λa=>Pv (exV a 0) λb=>Br b (Pv (exV a 2) λa=>CW ω p0 #[a]<|gh λa=>Pv (AA .geq a (.int .i32 0)) λb=>Br b (Pv (AA .lss a (.int .i32 128)) λb=>Br b (Pv (GG .u8 a) λa=>CT ω 253 #[p5,a]<|gh λ_=>Kn1 (())) (CT ω 251 #[p5,a]<|gh λ_=>Kn1 (()))) (Kn1 (()))) (VD ω p4 p5 K)
def Ko (ω:Om)(p0 p1:Value)(p4 p5:Value)(K:Value→M):M:=CT ω 252 #[p5]<|gh λa=>Pv (AA .eql a I0) λa=>Br a (K p1) (AHS p1<|gh λa=>Aq ((()):Unit) λs b=>ZO ω p0 p4 p5 a b K)
def TY (ω:Om)(p0 p1:Value)(p4 p5:Value)(p6 p9:Value)(K:Value→M):M:=Pv (AA .add p6 p9) λa=>Pv (DT p1 (some a) none) λa=>Ko ω p0 a p4 p5 K
def OE (ω:Om)(p0 p1:Value)(p4 p5:Value)(p6 p8 p9:Value)(K:Value→M):M:=Pv (BP p1) λa=>Pv (AA .add a (.int .i64 4)) λa=>CT ω 249 #[p5,a]<|gh λ_=>Pv (DT p1 none (some p6)) λa=>CT ω 250 #[p5,a]<|gh λ_=>Pv (AA .geq p8 (.int .i32 0)) λa=>Br a (CT ω 251 #[p5,p8]<|gh λ_=>TY ω p0 p1 p4 p5 p6 p9 K) (TY ω p0 p1 p4 p5 p6 p9 K)
def ZP (ω:Om)(p0 p1:Value)(p4 p5:Value)(p6 p7:Value)(p8 p9:Value)(Kn0:(Value×Unit)→M)(K:Value→M):M:=Pv (DT p1 (some p6) none) λa=>CT ω 179 #[a]<|gh λa=>Pv (exV a 0) λb=>Pv (exV a 1) λa=>Pv (AA .neq a (.int .i64 1)) λc=>Gd c true (Pv (AA .eql p8 b) λb=>Br b (Kn0 (p1,())) (OE ω p0 p1 p4 p5 p6 p8 a K)) (OE ω p0 p1 p4 p5 p6 p8 a K)
def PH (ω:Om)(p0 p1:Value)(p4 p5:Value)(p6 p7:Value)(p8 p9:Value)(K:Value→M):M:=CT ω 248 #[p7]<|gh λa=>OE ω p0 p1 p4 p5 p6 p8 a K
def ZQ (ω:Om)(p0 p4:Value)(p5 p14 x1:Value)(Kn0:(Value×Unit)→M)(K:Value→M):M:=ACu p14<|gh λa=>Pv (exV a 0) λb=>Br b (Pv (exV a 1) λb=>Pv (exV a 2) λa=>CW ω p0 #[a]<|gh λc=>Pv (AA .eql c a) λd=>Gd d true (Pv (AA .neq a (.int .i32 65533)) λd=>Br d (Kn0 (x1,())) (Pv (AA .eql a (.int .i32 65533)) λd=>Br d (ZP ω p0 x1 p4 p5 b a c I0 Kn0 K) (PH ω p0 x1 p4 p5 b a c I0 K))) (Pv (AA .eql a (.int .i32 65533)) λd=>Br d (ZP ω p0 x1 p4 p5 b a c I0 Kn0 K) (PH ω p0 x1 p4 p5 b a c I0 K))) (Ko ω p0 x1 p4 p5 K)
def AKD (ω:Om)(a0 a1:Value)(K:Value→M):M:=New (.cells Ze1 313 (0,0))<|gh λa=>AHS a1<|gh λb=>Aq ((a1,()):Value×Unit) λs c=>ZQ ω a0 Q0 a b s.1 c K
def ANu:=zkc2 AKD 215 Tryz.func215
def ZN (ω:Om)(p0 p2:Value)(K:Value→M):M:=Pv (AA .add p0 (.int .i32 97)) λa=>Pv (AA .sub a (.int .i32 65)) λa=>K a
def AKC (ω:Om)(a0:Value)(K:Value→M):M:=Pv (AA .geq a0 (.int .i32 65)) λa=>Gd a true (Pv (AA .leq a0 (.int .i32 90)) λa=>Br a (ZN ω a0 (.int .i32 0) K) (K a0)) (K a0)
def ANt:=zkc1 AKC 216 Tryz.func216
def OD (ω:Om)(p0 p4 p5:Value)(K:Value→M):M:=Bg λS=>Pv (Ad p0) λa=>Lg S 0 a λa=>Pv (Ad p0) λb=>Lg S 1 b λb=>Pv (DT a (some p5) (some b)) λa=>K a
def ZM (ω:Om)(p0 p1:Value)(p4 p5:Value)(Kn0:(Unit)→M)(K:Value→M):M:=Bg λS=>Pv (Ad p0) λa=>Lg S 1 a λa=>Pv (Ad p0) λb=>Lg S 0 b λb=>Pv (BP b) λb=>Pv (AA .lss a b) λa=>Gd a true (Pv (Ad p0) λa=>Lg S 0 a λa=>Pv (Ad p0) λb=>Lg S 1 b λb=>Pv (Ei a b) λa=>CW ω p1 #[a]<|gh λa=>Br a (Pv (Ad p0) λa=>Lf 1 a λa=>Pv (AA .add a (.int .i64 1)) λa=>Pv (Ad p0) λb=>Pv (Ae 1 b) λb=>Sto 1 b a<|gh λ_=>Kn0 (())) (OD ω p0 p4 p5 K)) (OD ω p0 p4 p5 K)
def AKB (ω:Om)(a0 a1:Value)(K:Value→M):M:=Pv (Ad a0) λa=>Lf 1 a λa=>Aq ((()):Unit) λs b=>ZM ω a0 a1 Q0 a b K
def ANs:=zkc2 AKB 217 Tryz.func217
def AEM (ω:Om)(a0:Value)(K:Value→M):M:=CT ω 214 #[a0]<|gh λa=>Gd a false (CT ω 219 #[a0]<|gh λa=>K a) (K Bt)
def ANr:=zkc1 AEM 218 Tryz.func218
def AKA (ω:Om)(a0:Value)(K:Value→M):M:=Pv (AA .geq a0 (.int .u8 48)) λa=>Gd a true (Pv (AA .leq a0 (.int .u8 57)) λa=>K a) (K Bf)
def ANq:=zkc1 AKA 219 Tryz.func219
def AJz (ω:Om)(a0 a1:Value)(K:Value→M):M:=CT ω 255 #[a0,a1]<|gh λa=>Pv (AA .geq a I0) λa=>K a
def ANp:=zkc2 AJz 220 Tryz.func220
def OC (ω:Om)(p4 p5 p7:Value)(Kn0:(Value×Value×Value×Unit)→M)(K:Value→M):M:=Pv (AA .add p7 (.int .i64 1)) λa=>Kn0 (p4,p5,a,())
def ZK (ω:Om)(p1 p4:Value)(p5 p6 p7:Value)(Kn0:(Value×Value×Value×Unit)→M)(K:Value→M):M:=CT ω 253 #[p6,p1]<|gh λ_=>Pv (AA .add p7 (.int .i64 1)) λa=>OC ω p4 p5 a Kn0 K
def OB (ω:Om)(p0 p4:Value)(p5 p6 p7:Value)(K:Value→M):M:=Pv (AA .add p7 (.int .i64 1)) λa=>Pv (Ad p0) λb=>Pv (Ae 1 b) λb=>Sto 1 b a<|gh λ_=>CT ω 254 #[p6]<|gh λa=>K (Value.tuple #[a,Bt])
def ZL (ω:Om)(p0 p1:Value)(p6 x4:Value)(x5 x7:Value)(Kn0:(Value×Value×Value×Unit)→M)(K:Value→M):M:=Pv (Ad p0) λa=>Lf 0 a λa=>Pv (BP a) λa=>Pv (AA .lss x7 a) λa=>Br a (Pv (Ad p0) λa=>Lf 0 a λa=>Pv (Ei a x7) λa=>Pv (AA .eql a (.int .u8 0)) λb=>Br b (K (Value.tuple Zf1)) (Pv (AA .neq a p1) λb=>Br b (CT ω 253 #[p6,a]<|gh λ_=>OC ω x4 x5 x7 Kn0 K) (Pv (AA .add x7 (.int .i64 1)) λa=>Pv (Ad p0) λb=>Lf 0 b λb=>Pv (BP b) λb=>Pv (AA .lss a b) λa=>Gd a true (Pv (Ad p0) λa=>Lf 0 a λa=>Pv (AA .add x7 (.int .i64 1)) λb=>Pv (Ei a b) λa=>Pv (AA .eql a p1) λa=>Br a (ZK ω p1 x4 x5 p6 x7 Kn0 K) (OB ω p0 x4 x5 p6 x7 K)) (OB ω p0 x4 x5 p6 x7 K)))) (K (Value.tuple Zf1))
def AJy (ω:Om)(a0 a1:Value)(K:Value→M):M:=New (.cells Ze1 313 (0,0))<|gh λa=>Pv (Ad a0) λb=>Lf 1 b λb=>Pv (AA .add b (.int .i64 1)) λb=>Aq ((Q0,Bf,b,()):Value×Value×Value×Unit) λs b=>ZL ω a0 a1 a s.1 s.2.1 s.2.2.1 b K
def ANo:=zkc2 AJy 221 Tryz.func221
def OA (ω:Om)(p3 p4 p5:Value)(K:Value→M):M:=Rn (AB 4 p3) λa=>Sto 4 p4 a<|gh λ_=>Rn (AB 4 p4) λa=>K (Value.tuple #[a,I0])
def ZI (ω:Om)(p3 p4 p5:Value)(K:Value→M):M:=Rn (AB 4 p3) λa=>Sto 4 p4 a<|gh λ_=>Rn (AB 4 p4) λa=>K (Value.tuple #[a,(.int .i64 171)])
def ZJ (ω:Om)(p0 p3:Value)(p4 p9:Value)(p10 x5 x11:Value)(Kn0:(Value×Value×Unit)→M)(K:Value→M):M:=Pv (AA .lss x11 p10) λa=>Br a (Pv (ixV 1 p9 x11) λa=>Rn (BF a) λa=>Bg λS=>Pv (Ad p0) λb=>Lg S 0 b λb=>Pv (Ad p0) λc=>Lg S 1 c λc=>Pv (DT b (some c) none) λb=>CT ω 213 #[b,a]<|gh λb=>Br b (Pv (Ad p0) λb=>Lf 1 b λb=>Pv (BP a) λc=>Pv (AA .add b c) λb=>Pv (Ad p0) λc=>Pv (Ae 1 c) λc=>Sto 1 c b<|gh λ_=>Pv (Ae 2 p3) λb=>Sto 1 b a<|gh λ_=>Pv (BB .eql a (zS [33,61])) λa=>Br a (Pv (Ae 2 p3) λa=>Sto 1 a (zS [60,62])<|gh λ_=>OA ω p3 p4 x5 K) (OA ω p3 p4 x5 K)) (Pv (AA .add x11 (.int .i64 1)) λa=>Kn0 (x5,a,()))) (ZI ω p3 p4 x5 K)
def AJx (ω:Om)(a0 a1:Value)(K:Value→M):M:=New (.cells (Value.cells a1) 247 (0,0))<|gh λa=>New (.cells Zk 247 (0,0))<|gh λb=>Pv (Ae 0 a) λc=>Sto 1 c (.int .i64 5)<|gh λ_=>AC 9 1 Za 18 [(0,(zS [60,61])),(1,(zS [62,61])),(2,(zS [60,62])),(3,(zS [33,61])),(4,(zS [124,124])),(5,(zS [40])),(6,(zS [41])),(7,(zS [44])),(8,(zS [46])),(9,(zS [59])),(10,(zS [42])),(11,(zS [43])),(12,(zS [45])),(13,(zS [47])),(14,(zS [37])),(15,(zS [61])),(16,(zS [60])),(17,(zS [62]))]<|gh λc=>Pv (lenV c) λd=>Aq ((I0,I0,()):Value×Value×Unit) λs e=>ZJ ω a0 a b c d s.1 s.2.1 e K
def ANn:=zkc2 AJx 222 Tryz.func222
def ZG (ω:Om)(p4 p5:Value)(K:Value→M)(Pn:Value→M):M:=AP Tryz.prog ω 256 #[p5] Pn<|gh λa=>K a
def ZH (ω:Om)(p0 p1:Value)(p4 x5:Value)(Kn0:(Value×Unit)→M)(K:Value→M)(Pn:Value→M):M:=AP Tryz.prog ω 152 #[p0,(zS [44])] Pn<|gh λa=>Br a (Gp Tryz.prog ω p1 #[] Pn<|gh λa=>AC 162 14 Zh 1 [(0,a)]<|gh λa=>App 162 14 168 Zh x5 a<|gh λa=>Kn0 (a,())) (ZG ω p4 x5 K Pn)
def AJw (ω:Om)(a0 a1:Value)(K:Value→M)(Pn:Value→M):M:=Gp Tryz.prog ω a1 #[] Pn<|gh λa=>AC 162 14 Zh 1 [(0,a)]<|gh λa=>Aq ((a,()):Value×Unit) λs a=>ZH ω a0 a1 S0 s.1 a K Pn
def ANm:=zkp2 AJw 223 Tryz.func223
def sh224_1 (ω:Om)(p0 p2:Value)(K:Value→M)(Pn:Value→M):M:=AP Tryz.prog ω 188 #[p0] Pn<|gh λa=>AC 9 1 Za 2 [(0,(zS [46])),(1,(zS [42]))]<|gh λb=>AP Tryz.prog ω 187 #[p0,b] Pn<|gh λ_=>Pv (AU Zh Zr [(0,Bt),(1,a)]) λa=>Sto 14 p2 a<|gh λ_=>Rn (AB 14 p2) λa=>K a
def sh224_3 (ω:Om)(p2 p4:Value)(K:Value→M)(Pn:Value→M):M:=Rn (AB 14 p4) λa=>Sto 14 p2 a<|gh λ_=>Rn (AB 14 p2) λa=>K a
def sh224_2 (ω:Om)(p0 p2 p4:Value)(K:Value→M)(Pn:Value→M):M:=AP Tryz.prog ω 188 #[p0] Pn<|gh λa=>Pv (Ae 13 p4) λb=>Sto 1 b a<|gh λ_=>sh224_3 ω p2 p4 K Pn
def sh224 (ω:Om)(a0:Value)(K:Value→M)(Pn:Value→M):M:=New (.cells Zh 162 (0,0))<|gh λa=>AP Tryz.prog ω 152 #[a0,(zS [42])] Pn<|gh λb=>Br b (Pv (AU Zh Zr [(0,Bt)]) λb=>Sto 14 a b<|gh λ_=>Rn (AB 14 a) λa=>K a) (Pv (Ad a0) λb=>Lf 0 b λb=>Pv (lenV b) λb=>Pv (AA .gtr b (.int .i64 3)) λb=>Gd b true (Pv (Ad a0) λb=>Lf 0 b λb=>Pv (ixV 4 b I0) λb=>Lf 0 b λb=>Pv (AA .eql b (.int .i64 1)) λb=>Gd b true (Pv (Ad a0) λb=>Lf 0 b λb=>Pv (ixV 4 b (.int .i64 1)) λb=>Lf 0 b λb=>Pv (AA .eql b (.int .i64 5)) λb=>Gd b true (Pv (Ad a0) λb=>Lf 0 b λb=>Pv (ixV 4 b (.int .i64 1)) λb=>Lf 2 b λb=>Pv (BB .eql b (zS [46])) λb=>Gd b true (Pv (Ad a0) λb=>Lf 0 b λb=>Pv (ixV 4 b (.int .i64 2)) λb=>Lf 0 b λb=>Pv (AA .eql b (.int .i64 5)) λb=>Gd b true (Pv (Ad a0) λb=>Lf 0 b λb=>Pv (ixV 4 b (.int .i64 2)) λb=>Lf 2 b λb=>Pv (BB .eql b (zS [42])) λb=>Br b (sh224_1 ω a0 a K Pn) (AP Tryz.prog ω 227 #[a0] Pn<|gh λb=>Pv (AU Zh Zr [(2,b)]) λb=>New (.cells Zh 162 (0,0))<|gh λc=>Sto 14 c b<|gh λ_=>AP Tryz.prog ω 152 #[a0,(zS [97,115])] Pn<|gh λb=>Br b (sh224_2 ω a0 a c K Pn) (sh224_3 ω a c K Pn))) (AP Tryz.prog ω 227 #[a0] Pn<|gh λb=>Pv (AU Zh Zr [(2,b)]) λb=>New (.cells Zh 162 (0,0))<|gh λc=>Sto 14 c b<|gh λ_=>AP Tryz.prog ω 152 #[a0,(zS [97,115])] Pn<|gh λb=>Br b (sh224_2 ω a0 a c K Pn) (sh224_3 ω a c K Pn))) (AP Tryz.prog ω 227 #[a0] Pn<|gh λb=>Pv (AU Zh Zr [(2,b)]) λb=>New (.cells Zh 162 (0,0))<|gh λc=>Sto 14 c b<|gh λ_=>AP Tryz.prog ω 152 #[a0,(zS [97,115])] Pn<|gh λb=>Br b (sh224_2 ω a0 a c K Pn) (sh224_3 ω a c K Pn))) (AP Tryz.prog ω 227 #[a0] Pn<|gh λb=>Pv (AU Zh Zr [(2,b)]) λb=>New (.cells Zh 162 (0,0))<|gh λc=>Sto 14 c b<|gh λ_=>AP Tryz.prog ω 152 #[a0,(zS [97,115])] Pn<|gh λb=>Br b (sh224_2 ω a0 a c K Pn) (sh224_3 ω a c K Pn))) (AP Tryz.prog ω 227 #[a0] Pn<|gh λb=>Pv (AU Zh Zr [(2,b)]) λb=>New (.cells Zh 162 (0,0))<|gh λc=>Sto 14 c b<|gh λ_=>AP Tryz.prog ω 152 #[a0,(zS [97,115])] Pn<|gh λb=>Br b (sh224_2 ω a0 a c K Pn) (sh224_3 ω a c K Pn))) (AP Tryz.prog ω 227 #[a0] Pn<|gh λb=>Pv (AU Zh Zr [(2,b)]) λb=>New (.cells Zh 162 (0,0))<|gh λc=>Sto 14 c b<|gh λ_=>AP Tryz.prog ω 152 #[a0,(zS [97,115])] Pn<|gh λb=>Br b (sh224_2 ω a0 a c K Pn) (sh224_3 ω a c K Pn)))
def ANl:=zkp1 sh224 224 Tryz.func224
def KZ (ω:Om)(p0 p2:Value)(p3 p4:Value)(Kn0:(Value×Value×Unit)→M)(K:Value→M)(Pn:Value→M):M:=AC 9 1 Za 1 [(0,(zS [106,111,105,110]))]<|gh λa=>AP Tryz.prog ω 187 #[p0,a] Pn<|gh λ_=>AP Tryz.prog ω 257 #[p0] Pn<|gh λa=>New (.cells Zl 164 (0,0))<|gh λb=>Sto 14 b a<|gh λ_=>Pv (Ae 2 b) λa=>Sto 1 a p4<|gh λ_=>AC 9 1 Za 1 [(0,(zS [111,110]))]<|gh λa=>AP Tryz.prog ω 187 #[p0,a] Pn<|gh λ_=>AP Tryz.prog ω 227 #[p0] Pn<|gh λa=>Pv (Ae 3 b) λc=>Sto 11 c a<|gh λ_=>Rn (AB 14 b) λa=>AC 164 14 Zl 1 [(0,a)]<|gh λa=>App 164 14 168 Zl p3 a<|gh λa=>Kn0 (p2,a,())
def sh225_4 (ω:Om)(p0 p2:Value)(p3 p30:Value)(Kn0:(Value×Value×Unit)→M)(K:Value→M)(Pn:Value→M):M:=Br p30 (AP Tryz.prog ω 152 #[p0,(zS [108,101,102,116])] Pn<|gh λa=>Pv (unV .not a) λb=>Br b (AP Tryz.prog ω 152 #[p0,(zS [105,110,110,101,114])] Pn<|gh λ_=>KZ ω p0 p2 p3 a Kn0 K Pn) (KZ ω p0 p2 p3 a Kn0 K Pn)) (AP Tryz.prog ω 258 #[p3] Pn<|gh λa=>K a)
def TW (ω:Om)(p0 x2 x3:Value)(Kn0:(Value×Value×Unit)→M)(K:Value→M)(Pn:Value→M):M:=AP Tryz.prog ω 152 #[p0,(zS [44])] Pn<|gh λa=>Br a (AP Tryz.prog ω 257 #[p0] Pn<|gh λa=>AC 164 14 Zl 1 [(0,a)]<|gh λa=>App 164 14 168 Zl x3 a<|gh λa=>Kn0 (x2,a,())) (AP Tryz.prog ω 152 #[p0,(zS [99,114,111,115,115])] Pn<|gh λa=>Br a (AC 9 1 Za 1 [(0,(zS [106,111,105,110]))]<|gh λa=>AP Tryz.prog ω 187 #[p0,a] Pn<|gh λ_=>AP Tryz.prog ω 257 #[p0] Pn<|gh λa=>AC 164 14 Zl 1 [(0,a)]<|gh λa=>App 164 14 168 Zl x3 a<|gh λa=>Kn0 (x2,a,())) (AP Tryz.prog ω 154 #[p0,(zS [108,101,102,116])] Pn<|gh λa=>Br a (sh225_4 ω p0 x2 x3 a Kn0 K Pn) (AP Tryz.prog ω 154 #[p0,(zS [105,110,110,101,114])] Pn<|gh λa=>Br a (sh225_4 ω p0 x2 x3 a Kn0 K Pn) (AP Tryz.prog ω 154 #[p0,(zS [106,111,105,110])] Pn<|gh λa=>sh225_4 ω p0 x2 x3 a Kn0 K Pn))))
def AJv (ω:Om)(a0:Value)(K:Value→M)(Pn:Value→M):M:=AP Tryz.prog ω 257 #[a0] Pn<|gh λa=>AC 164 14 Zl 1 [(0,a)]<|gh λa=>Aq ((S0,a,()):Value×Value×Unit) λs a=>TW ω a0 s.1 s.2.1 a K Pn
def ANk:=zkp1 AJv 225 Tryz.func225
def ZE (ω:Om)(p4 p5:Value)(K:Value→M)(Pn:Value→M):M:=AP Tryz.prog ω 259 #[p5] Pn<|gh λa=>K a
def ZF (ω:Om)(p0 p1:Value)(p4 x5:Value)(Kn0:(Value×Unit)→M)(K:Value→M)(Pn:Value→M):M:=AP Tryz.prog ω 152 #[p0,(zS [44])] Pn<|gh λa=>Br a (Gp Tryz.prog ω p1 #[] Pn<|gh λa=>AC 65 11 Zb 1 [(0,a)]<|gh λa=>App 65 11 128 Zb x5 a<|gh λa=>Kn0 (a,())) (ZE ω p4 x5 K Pn)
def AJu (ω:Om)(a0 a1:Value)(K:Value→M)(Pn:Value→M):M:=Gp Tryz.prog ω a1 #[] Pn<|gh λa=>AC 65 11 Zb 1 [(0,a)]<|gh λa=>Aq ((a,()):Value×Unit) λs a=>ZF ω a0 a1 S0 s.1 a K Pn
def ANj:=zkp2 AJu 226 Tryz.func226
def ZB (ω:Om)(p2 p3:Value)(K:Value→M)(Pn:Value→M):M:=Rn (AB 11 p3) λa=>Sto 11 p2 a<|gh λ_=>Rn (AB 11 p2) λa=>K a
def ZC (ω:Om)(p0 p2 p3:Value)(Kn0:(Unit)→M)(K:Value→M)(Pn:Value→M):M:=AP Tryz.prog ω 152 #[p0,(zS [111,114])] Pn<|gh λa=>Br a (Bg λS=>Rs S (AB 11 p3) λa=>AP Tryz.prog ω 260 #[p0] Pn<|gh<|AQ S λb=>AC 65 11 Zb 2 [(0,a),(1,b)]<|gh λa=>AP Tryz.prog ω 261 #[(.int .i64 22),a] Pn<|gh λa=>Sto 11 p3 a<|gh λ_=>Kn0 (())) (ZB ω p2 p3 K Pn)
def AJt (ω:Om)(a0:Value)(K:Value→M)(Pn:Value→M):M:=New (.cells Zb 65 (0,0))<|gh λa=>AP Tryz.prog ω 260 #[a0] Pn<|gh λb=>New (.cells Zb 65 (0,0))<|gh λc=>Sto 11 c b<|gh λ_=>Aq ((()):Unit) λs b=>ZC ω a0 a c b K Pn
def ANi:=zkp1 AJt 227 Tryz.func227
def Yz (ω:Om)(p4 p5:Value)(K:Value→M)(Pn:Value→M):M:=AP Tryz.prog ω 262 #[p5] Pn<|gh λa=>K a
def ZA (ω:Om)(p0 p1:Value)(p4 x5:Value)(Kn0:(Value×Unit)→M)(K:Value→M)(Pn:Value→M):M:=AP Tryz.prog ω 152 #[p0,(zS [44])] Pn<|gh λa=>Br a (Gp Tryz.prog ω p1 #[] Pn<|gh λa=>AC 166 12 Zu 1 [(0,a)]<|gh λa=>App 166 12 136 Zu x5 a<|gh λa=>Kn0 (a,())) (Yz ω p4 x5 K Pn)
def AJs (ω:Om)(a0 a1:Value)(K:Value→M)(Pn:Value→M):M:=Gp Tryz.prog ω a1 #[] Pn<|gh λa=>AC 166 12 Zu 1 [(0,a)]<|gh λa=>Aq ((a,()):Value×Unit) λs a=>ZA ω a0 a1 S0 s.1 a K Pn
def ANh:=zkp2 AJs 228 Tryz.func228
def sh229_1 (ω:Om)(p2 p3:Value)(K:Value→M)(Pn:Value→M):M:=Rn (AB 12 p3) λa=>Sto 12 p2 a<|gh λ_=>Rn (AB 12 p2) λa=>K a
def sh229 (ω:Om)(a0:Value)(K:Value→M)(Pn:Value→M):M:=New (.cells Zu 166 (0,0))<|gh λa=>AP Tryz.prog ω 227 #[a0] Pn<|gh λb=>Pv (AU Zu #[(0,11),(11,1)] [(0,b)]) λb=>New (.cells Zu 166 (0,0))<|gh λc=>Sto 12 c b<|gh λ_=>AP Tryz.prog ω 152 #[a0,(zS [100,101,115,99])] Pn<|gh λb=>Pv (Ae 11 c) λd=>Sto 1 d b<|gh λ_=>Lf 11 c λb=>Pv (unV .not b) λb=>Br b (AP Tryz.prog ω 152 #[a0,(zS [97,115,99])] Pn<|gh λ_=>sh229_1 ω a c K Pn) (sh229_1 ω a c K Pn)
def ANg:=zkp1 sh229 229 Tryz.func229
def sh230_2 (ω:Om)(p0 p2:Value)(K:Value→M)(Pn:Value→M):M:=AP Tryz.prog ω 231 #[p0,(.int .i64 3)] Pn<|gh λa=>Pv (FK false 3 1 a) λa=>K a
def sh230_1 (ω:Om)(p0 p2:Value)(K:Value→M)(Pn:Value→M):M:=AP Tryz.prog ω 155 #[p0] Pn<|gh λ_=>sh230_2 ω p0 p2 K Pn
def sh230 (ω:Om)(a0:Value)(K:Value→M)(Pn:Value→M):M:=Pv (Ad a0) λa=>Lf 0 a λa=>Pv (ixV 4 a I0) λa=>Lf 0 a λa=>Pv (AA .eql a (.int .i64 3)) λa=>Gd a true (Pv (Ad a0) λa=>Lf 0 a λa=>Pv (ixV 4 a I0) λa=>Lf 3 a λa=>Pv (AA .gtr a (.int .i64 2147483647)) λa=>Br a (sh230_1 ω a0 I0 K Pn) (sh230_2 ω a0 I0 K Pn)) (sh230_2 ω a0 I0 K Pn)
def ANf:=zkp1 sh230 230 Tryz.func230
def TV (ω:Om)(p0 p4:Value)(K:Value→M)(Pn:Value→M):M:=AP Tryz.prog ω 185 #[p0] Pn<|gh λa=>Sto 4 p4 a<|gh λ_=>Rn (AB 4 p4) λa=>K a
def AJr (ω:Om)(a0 a1:Value)(K:Value→M)(Pn:Value→M):M:=New (.cells Zk 247 (0,0))<|gh λa=>Pv (Ad a0) λb=>Lf 0 b λb=>Pv (ixV 4 b I0) λb=>Lf 0 b λb=>Pv (AA .neq b a1) λb=>Br b (AP Tryz.prog ω 155 #[a0] Pn<|gh λ_=>TV ω a0 a K Pn) (TV ω a0 a K Pn)
def ANe:=zkp2 AJr 231 Tryz.func231
def AJq (ω:Om)(a0 a1:Value)(K:Value→M)(Pn:Value→M):M:=AC 9 1 Za 1 [(0,(zS [40]))]<|gh λa=>AP Tryz.prog ω 187 #[a0,a] Pn<|gh λ_=>AP Tryz.prog ω 263 #[a0,a1] Pn<|gh λa=>AC 9 1 Za 1 [(0,(zS [41]))]<|gh λb=>AP Tryz.prog ω 187 #[a0,b] Pn<|gh λ_=>K a
def ANd:=zkp2 AJq 232 Tryz.func232
def AJp (ω:Om)(a0:Value)(K:Value→M):M:=Pv (lenV a0) λa=>Pv (lenV a0) λb=>Pv (Bi 1 a0 none (some a) (some b)) λa=>K a
variable {ω:Om}{K:Value→M}{I:Imm}{L:LH}{a0 a1 a2 a3 a4 a5 a6 a7 a8:Value}
def ANc:=zkc1 AJp 233 Tryz.func233
def AJo (ω:Om)(a0 a1:Value)(K:Value→M)(Pn:Value→M):M:=AC 9 1 Za 1 [(0,(zS [40]))]<|gh λa=>AP Tryz.prog ω 187 #[a0,a] Pn<|gh λ_=>AP Tryz.prog ω 226 #[a0,a1] Pn<|gh λa=>AC 9 1 Za 1 [(0,(zS [41]))]<|gh λb=>AP Tryz.prog ω 187 #[a0,b] Pn<|gh λ_=>K a
def ANb:=zkp2 AJo 234 Tryz.func234
def AJn (ω:Om)(a0:Value)(K:Value→M):M:=Pv (lenV a0) λa=>Pv (lenV a0) λb=>Pv (Bi 12 a0 none (some a) (some b)) λa=>K a
def ANa:=zkc1 AJn 235 Tryz.func235
def sh236_6 (ω:Om)(p0 p2 p3:Value)(K:Value→M)(Pn:Value→M):M:=AC 9 1 Za 1 [(0,(zS [41]))]<|gh λa=>AP Tryz.prog ω 187 #[p0,a] Pn<|gh λ_=>Rn (AB 51 p3) λa=>Sto 51 p2 a<|gh λ_=>Rn (AB 51 p2) λa=>K a
def sh236_5 (ω:Om)(p0 p2 p3:Value)(K:Value→M)(Pn:Value→M):M:=Lf 45 p3 λa=>Pv (Hq .eql a S0) λa=>Br a (AP Tryz.prog ω 155 #[p0] Pn<|gh λ_=>sh236_6 ω p0 p2 p3 K Pn) (sh236_6 ω p0 p2 p3 K Pn)
def KY (ω:Om)(p0 p2 p3:Value)(Kn0:(Unit)→M)(K:Value→M)(Pn:Value→M):M:=AP Tryz.prog ω 152 #[p0,(zS [44])] Pn<|gh λa=>Pv (unV .not a) λa=>Br a (sh236_5 ω p0 p2 p3 K Pn) (Kn0 (()))
def sh236_2 (ω:Om)(p0 p2 p3:Value)(Kn0:(Unit)→M)(K:Value→M)(Pn:Value→M):M:=AC 9 1 Za 1 [(0,(zS [107,101,121]))]<|gh λa=>AP Tryz.prog ω 187 #[p0,a] Pn<|gh λ_=>AP Tryz.prog ω 189 #[p0] Pn<|gh λa=>Pv (Ae 46 p3) λb=>Sto 1 b a<|gh λ_=>KY ω p0 p2 p3 Kn0 K Pn
def Nz (ω:Om)(p0 p2 p3:Value)(Kn0:(Unit)→M)(K:Value→M)(Pn:Value→M):M:=Bg λS=>Lg S 45 p3 λa=>AP Tryz.prog ω 264 #[p0] Pn<|gh<|AQ S λb=>AC 130 16 Zx 1 [(0,b)]<|gh<|AQ S λb=>App 130 16 160 Zx a b<|gh λa=>Pv (Ae 45 p3) λb=>Sto 1 b a<|gh λ_=>KY ω p0 p2 p3 Kn0 K Pn
def TU (ω:Om)(p0 p2 p3:Value)(Kn0:(Unit)→M)(K:Value→M)(Pn:Value→M):M:=Lf 46 p3 λa=>Pv (Hq .eql a S0) λa=>Gd a true (AP Tryz.prog ω 152 #[p0,(zS [112,114,105,109,97,114,121])] Pn<|gh λa=>Br a (sh236_2 ω p0 p2 p3 Kn0 K Pn) (Nz ω p0 p2 p3 Kn0 K Pn)) (Nz ω p0 p2 p3 Kn0 K Pn)
def AJm (ω:Om)(a0:Value)(K:Value→M)(Pn:Value→M):M:=New (.cells Zf 76 (0,0))<|gh λa=>AP Tryz.prog ω 188 #[a0] Pn<|gh λb=>Pv (AU Zf Zn [(0,(.int .i64 5)),(2,b)]) λb=>New (.cells Zf 76 (0,0))<|gh λc=>Sto 51 c b<|gh λ_=>AC 9 1 Za 1 [(0,(zS [40]))]<|gh λb=>AP Tryz.prog ω 187 #[a0,b] Pn<|gh λ_=>Aq ((()):Unit) λs b=>TU ω a0 a c b K Pn
def ANZ:=zkp1 AJm 236 Tryz.func236
def Yy (ω:Om)(p1 p3:Value)(p13 p14 x15:Value)(Kn0:(Value×Unit)→M)(K:Value→M):M:=Pv (AA .lss x15 p14) λa=>Br a (Pv (ixV 11 p13 x15) λa=>Rn (AB 11 a) λa=>New (.cells Zb 65 (0,0))<|gh λb=>Sto 11 b a<|gh λ_=>Rn (BF p3) λa=>Rn (AB 11 b) λb=>Pv (AA .add p1 (.int .i64 1)) λc=>CW ω a #[b,c]<|gh λ_=>Pv (AA .add x15 (.int .i64 1)) λa=>Kn0 (a,())) (K (Value.tuple #[]))
def AEL (ω:Om)(a0 a1:Value)(a2 a3:Value)(K:Value→M):M:=New (.cells (Value.cells a0) 65 (0,0))<|gh λa=>Rn (BF a2) λb=>Rn (AB 11 a) λc=>CW ω b #[c,a1]<|gh λ_=>Lf 10 a λa=>Pv (lenV a) λb=>Aq ((I0,()):Value×Unit) λs c=>Yy ω a1 a3 a b s.1 c K
def ANX:=zkc4 AEL 237 Tryz.func237
def AJl (ω:Om)(a0 a1:Value)(K:Value→M):M:=Pv (BP a0) λa=>Pv (BP a1) λb=>Pv (AA .geq a b) λa=>Gd a true (Pv (BP a1) λa=>Pv (DT a0 none (some a)) λa=>Pv (BB .eql a a1) λa=>K a) (K Bf)
def ANW:=zkc2 AJl 247 Tryz.func247
def Yx (ω:Om)(p0 p2:Value)(K:Value→M):M:=Pv (AA .leq p0 (.int .i32 65535)) λa=>Br a (K (.int .i64 3)) (Pv (AA .leq p0 (.int .i32 1114111)) λa=>Br a (K (.int .i64 4)) (K (.int .i64 (-1))))
def AJk (ω:Om)(a0:Value)(K:Value→M):M:=Pv (AA .lss a0 (.int .i32 0)) λa=>Br a (K (.int .i64 (-1))) (Pv (AA .leq a0 (.int .i32 127)) λa=>Br a (K (.int .i64 1)) (Pv (AA .leq a0 (.int .i32 2047)) λa=>Br a (K (.int .i64 2)) (Pv (AA .leq (.int .i32 55296) a0) λa=>Gd a true (Pv (AA .leq a0 (.int .i32 57343)) λa=>Br a (K (.int .i64 (-1))) (Yx ω a0 I0 K)) (Yx ω a0 I0 K))))
def ANV:=zkc1 AJk 248 Tryz.func248
def Yw (ω:Om)(p0 p1:Value)(K:Value→M):M:=Bg λS=>Pv (Ad p0) λa=>Lg S 1 a λa=>Pv (WQ a) λa=>Pv (Ad p0) λb=>Lg S 1 b λb=>Pv (lenV b) λb=>Pv (AA .sub a b) λa=>Pv (AA .lss a p1) λa=>Br a (CT ω 270 #[p0,p1]<|gh λ_=>K (Value.tuple #[])) (K (Value.tuple #[]))
def AJj (ω:Om)(a0 a1:Value)(K:Value→M):M:=CT ω 269 #[a0]<|gh λ_=>Pv (AA .lss a1 I0) λa=>Br a (F /- panic -/) (Yw ω a0 a1 K)
def ANU:=zkc2 AJj 249 Tryz.func249
def AJi (ω:Om)(a0 a1:Value)(K:Value→M):M:=CT ω 269 #[a0]<|gh λ_=>Pv (Ad a0) λa=>Lf 1 a λa=>App 5 1 1 #[(.int .u8 0)] a a1<|gh λa=>Pv (Ad a0) λb=>Pv (Ae 1 b) λb=>Sto 1 b a<|gh λ_=>Pv (BP a1) λa=>K (Value.tuple #[a,Value.nilIface])
def ANT:=zkc2 AJi 250 Tryz.func250
def AJh (ω:Om)(a0 a1:Value)(K:Value→M):M:=CT ω 269 #[a0]<|gh λ_=>Pv (Ad a0) λa=>Lf 1 a λa=>Pv (lenV a) λa=>Pv (Ad a0) λb=>Lf 1 b λb=>CT ω 271 #[b,a1]<|gh λb=>Pv (Ad a0) λc=>Pv (Ae 1 c) λc=>Sto 1 c b<|gh λ_=>Pv (Ad a0) λb=>Lf 1 b λb=>Pv (lenV b) λb=>Pv (AA .sub b a) λa=>K (Value.tuple #[a,Value.nilIface])
def ANR:=zkc2 AJh 251 Tryz.func251
def AJg (ω:Om)(a0:Value)(K:Value→M):M:=Pv (Ad a0) λa=>Lf 1 a λa=>Pv (WQ a) λa=>K a
def ANQ:=zkc1 AJg 252 Tryz.func252
def AJf (ω:Om)(a0 a1:Value)(K:Value→M):M:=CT ω 269 #[a0]<|gh λ_=>Pv (Ad a0) λa=>Lf 1 a λa=>AC 5 1 #[(.int .u8 0)] 1 [(0,a1)]<|gh λb=>App 5 1 1 #[(.int .u8 0)] a b<|gh λa=>Pv (Ad a0) λb=>Pv (Ae 1 b) λb=>Sto 1 b a<|gh λ_=>K Value.nilIface
def ANP:=zkc2 AJf 253 Tryz.func253
def AJe (ω:Om)(a0:Value)(K:Value→M):M:=Bg λS=>Pv (Ad a0) λa=>Lg S 1 a λa=>Pv (ACz a) λa=>Pv (Ad a0) λb=>Lg S 1 b λb=>Pv (lenV b) λb=>APF 5 a b<|gh λa=>K a
def ANO:=zkc1 AJe 254 Tryz.func254
def Yv (ω:Om)(p0 p1:Value)(p7 x4 x8:Value)(Kn0:(Value×Value×Unit)→M)(K:Value→M):M:=Pv (AA .lss x8 p7) λa=>Br a (Pv (ixV 1 p0 x8) λa=>Rn (BF a) λa=>Pv (BB .eql p1 a) λa=>Br a (K x8) (Pv (AA .add x8 (.int .i64 1)) λa=>Kn0 (x4,a,()))) (K (.int .i64 (-1)))
def AJd (ω:Om)(a0 a1:Value)(K:Value→M):M:=Pv (lenV a0) λa=>Aq ((I0,I0,()):Value×Value×Unit) λs b=>Yv ω a0 a1 a s.1 s.2.1 b K
def ANN:=zkc2 AJd 255 Tryz.func255
def AJc (ω:Om)(a0:Value)(K:Value→M):M:=Pv (lenV a0) λa=>Pv (lenV a0) λb=>Pv (Bi 14 a0 none (some a) (some b)) λa=>K a
def ANM:=zkc1 AJc 256 Tryz.func256
def sh257_2 (ω:Om)(p2 p3:Value)(K:Value→M)(Pn:Value→M):M:=Rn (AB 14 p3) λa=>Sto 14 p2 a<|gh λ_=>Rn (AB 14 p2) λa=>K a
def sh257_1 (ω:Om)(p0 p2 p3:Value)(K:Value→M)(Pn:Value→M):M:=AP Tryz.prog ω 188 #[p0] Pn<|gh λa=>Pv (Ae 1 p3) λb=>Sto 1 b a<|gh λ_=>sh257_2 ω p2 p3 K Pn
def sh257 (ω:Om)(a0:Value)(K:Value→M)(Pn:Value→M):M:=New (.cells Zl 164 (0,0))<|gh λa=>AP Tryz.prog ω 188 #[a0] Pn<|gh λb=>Pv (AU Zl #[(0,1),(1,1),(2,1),(3,11)] [(0,b)]) λb=>New (.cells Zl 164 (0,0))<|gh λc=>Sto 14 c b<|gh λ_=>AP Tryz.prog ω 152 #[a0,(zS [97,115])] Pn<|gh λb=>Gd b false (Pv (Ad a0) λb=>Lf 0 b λb=>Pv (ixV 4 b I0) λb=>Lf 0 b λb=>Pv (AA .eql b (.int .i64 1)) λb=>Br b (sh257_1 ω a0 a c K Pn) (sh257_2 ω a c K Pn)) (sh257_1 ω a0 a c K Pn)
def ANL:=zkp1 sh257 257 Tryz.func257
def AJb (ω:Om)(a0:Value)(K:Value→M):M:=Pv (lenV a0) λa=>Pv (lenV a0) λb=>Pv (Bi 14 a0 none (some a) (some b)) λa=>K a
def ANK:=zkc1 AJb 258 Tryz.func258
def AJa (ω:Om)(a0:Value)(K:Value→M):M:=Pv (lenV a0) λa=>Pv (lenV a0) λb=>Pv (Bi 11 a0 none (some a) (some b)) λa=>K a
def ANJ:=zkc1 AJa 259 Tryz.func259
def Yt (ω:Om)(p2 p3:Value)(K:Value→M)(Pn:Value→M):M:=Rn (AB 11 p3) λa=>Sto 11 p2 a<|gh λ_=>Rn (AB 11 p2) λa=>K a
def Yu (ω:Om)(p0 p2 p3:Value)(Kn0:(Unit)→M)(K:Value→M)(Pn:Value→M):M:=AP Tryz.prog ω 152 #[p0,(zS [97,110,100])] Pn<|gh λa=>Br a (Bg λS=>Rs S (AB 11 p3) λa=>AP Tryz.prog ω 272 #[p0] Pn<|gh<|AQ S λb=>AC 65 11 Zb 2 [(0,a),(1,b)]<|gh λa=>AP Tryz.prog ω 261 #[(.int .i64 21),a] Pn<|gh λa=>Sto 11 p3 a<|gh λ_=>Kn0 (())) (Yt ω p2 p3 K Pn)
def AJZ (ω:Om)(a0:Value)(K:Value→M)(Pn:Value→M):M:=New (.cells Zb 65 (0,0))<|gh λa=>AP Tryz.prog ω 272 #[a0] Pn<|gh λb=>New (.cells Zb 65 (0,0))<|gh λc=>Sto 11 c b<|gh λ_=>Aq ((()):Unit) λs b=>Yu ω a0 a c b K Pn
def ANI:=zkp1 AJZ 260 Tryz.func260
def AJY (ω:Om)(a0 a1:Value)(K:Value→M):M:=New (.cells Zb 65 (0,0))<|gh λa=>Pv (AU Zb Zo [(0,a0),(7,a1)]) λb=>Sto 11 a b<|gh λ_=>Rn (AB 11 a) λa=>K a
def ANH:=zkc2 AJY 261 Tryz.func261
def AJX (ω:Om)(a0:Value)(K:Value→M):M:=Pv (lenV a0) λa=>Pv (lenV a0) λb=>Pv (Bi 12 a0 none (some a) (some b)) λa=>K a
def ANG:=zkc1 AJX 262 Tryz.func262
def Yq (ω:Om)(p4 p5:Value)(K:Value→M)(Pn:Value→M):M:=AP Tryz.prog ω 273 #[p5] Pn<|gh λa=>K a
def Yr (ω:Om)(p0 p1:Value)(p4 x5:Value)(Kn0:(Value×Unit)→M)(K:Value→M)(Pn:Value→M):M:=AP Tryz.prog ω 152 #[p0,(zS [44])] Pn<|gh λa=>Br a (Gp Tryz.prog ω p1 #[] Pn<|gh λa=>AC 9 1 Za 1 [(0,a)]<|gh λa=>App 9 1 16 Za x5 a<|gh λa=>Kn0 (a,())) (Yq ω p4 x5 K Pn)
def AJW (ω:Om)(a0 a1:Value)(K:Value→M)(Pn:Value→M):M:=Gp Tryz.prog ω a1 #[] Pn<|gh λa=>AC 9 1 Za 1 [(0,a)]<|gh λa=>Aq ((a,()):Value×Unit) λs a=>Yr ω a0 a1 S0 s.1 a K Pn
def ANF:=zkp2 AJW 263 Tryz.func263
def sh264_4 (ω:Om)(p0 p3:Value)(Kn0:(Unit)→M)(K:Value→M)(Pn:Value→M):M:=AC 9 1 Za 1 [(0,(zS [110,117,108,108]))]<|gh λa=>AP Tryz.prog ω 187 #[p0,a] Pn<|gh λ_=>Pv (Ae 2 p3) λa=>Sto 1 a Bt<|gh λ_=>Kn0 (())
def sh264_8 (ω:Om)(p0 p3:Value)(Kn0:(Unit)→M)(K:Value→M)(Pn:Value→M):M:=AC 9 1 Za 1 [(0,(zS [107,101,121]))]<|gh λa=>AP Tryz.prog ω 187 #[p0,a] Pn<|gh λ_=>Pv (Ae 3 p3) λa=>Sto 1 a Bt<|gh λ_=>Kn0 (())
def sh264_10 (ω:Om)(p3:Value)(Kn0:(Unit)→M)(K:Value→M)(Pn:Value→M):M:=Pv (Ae 4 p3) λa=>Sto 1 a Bt<|gh λ_=>Kn0 (())
def sh264_12 (ω:Om)(p0 p3:Value)(Kn0:(Unit)→M)(K:Value→M)(Pn:Value→M):M:=AP Tryz.prog ω 274 #[p0] Pn<|gh λa=>Pv (Ae 5 p3) λb=>Sto 11 b a<|gh λ_=>Kn0 (())
def sh264_13 (ω:Om)(p2 p3:Value)(K:Value→M)(Pn:Value→M):M:=Rn (AB 16 p3) λa=>Sto 16 p2 a<|gh λ_=>Rn (AB 16 p2) λa=>K a
def sh264_11 (ω:Om)(p0 p2 p3:Value)(Kn0:(Unit)→M)(K:Value→M)(Pn:Value→M):M:=Pv (Ae 5 p3) λa=>Lf 0 a λa=>Pv (AA .eql a I0) λa=>Gd a true (AP Tryz.prog ω 152 #[p0,(zS [100,101,102,97,117,108,116])] Pn<|gh λa=>Br a (sh264_12 ω p0 p3 Kn0 K Pn) (sh264_13 ω p2 p3 K Pn)) (sh264_13 ω p2 p3 K Pn)
def sh264_9 (ω:Om)(p0 p2 p3:Value)(Kn0:(Unit)→M)(K:Value→M)(Pn:Value→M):M:=Lf 4 p3 λa=>Pv (unV .not a) λa=>Gd a true (AP Tryz.prog ω 152 #[p0,(zS [117,110,105,113,117,101])] Pn<|gh λa=>Br a (sh264_10 ω p3 Kn0 K Pn) (sh264_11 ω p0 p2 p3 Kn0 K Pn)) (sh264_11 ω p0 p2 p3 Kn0 K Pn)
def sh264_7 (ω:Om)(p0 p2 p3:Value)(Kn0:(Unit)→M)(K:Value→M)(Pn:Value→M):M:=Lf 3 p3 λa=>Pv (unV .not a) λa=>Gd a true (AP Tryz.prog ω 152 #[p0,(zS [112,114,105,109,97,114,121])] Pn<|gh λa=>Br a (sh264_8 ω p0 p3 Kn0 K Pn) (sh264_9 ω p0 p2 p3 Kn0 K Pn)) (sh264_9 ω p0 p2 p3 Kn0 K Pn)
def sh264_3 (ω:Om)(p0 p2 p3:Value)(Kn0:(Unit)→M)(K:Value→M)(Pn:Value→M):M:=Lf 2 p3 λa=>Pv (unV .not a) λa=>Gd a true (AP Tryz.prog ω 152 #[p0,(zS [110,111,116])] Pn<|gh λa=>Br a (sh264_4 ω p0 p3 Kn0 K Pn) (sh264_7 ω p0 p2 p3 Kn0 K Pn)) (sh264_7 ω p0 p2 p3 Kn0 K Pn)
def sh264_2 (ω:Om)(p0 p2 p3:Value)(K:Value→M)(Pn:Value→M):M:=AP Tryz.prog ω 185 #[p0] Pn<|gh λ_=>Aq ((()):Unit) λs a=>sh264_3 ω p0 p2 p3 a K Pn
def sh264_1 (ω:Om)(p0 p2 p3:Value)(K:Value→M)(Pn:Value→M):M:=Lf 1 p3 λa=>Pv (AA .eql a I0) λa=>Br a (AP Tryz.prog ω 155 #[p0] Pn<|gh λ_=>sh264_2 ω p0 p2 p3 K Pn) (sh264_2 ω p0 p2 p3 K Pn)
def sh264 (ω:Om)(a0:Value)(K:Value→M)(Pn:Value→M):M:=New (.cells Zx 130 (0,0))<|gh λa=>AP Tryz.prog ω 188 #[a0] Pn<|gh λb=>Pv (AU Zx #[(0,1),(1,1),(2,1),(3,1),(4,1),(5,11)] [(0,b)]) λb=>New (.cells Zx 130 (0,0))<|gh λc=>Sto 16 c b<|gh λ_=>Pv (Ad a0) λb=>Lf 0 b λb=>Pv (ixV 4 b I0) λb=>Lf 0 b λb=>Pv (AA .eql b (.int .i64 1)) λb=>Br b (Uk<|gh λb=>GR .string b (zS [105,110,116]) (.int .i64 1)<|gh λ_=>GR .string b (zS [105,110,116,101,103,101,114]) (.int .i64 1)<|gh λ_=>GR .string b (zS [98,105,103,105,110,116]) (.int .i64 1)<|gh λ_=>GR .string b (zS [98,111,111,108]) (.int .i64 2)<|gh λ_=>GR .string b (zS [98,111,111,108,101,97,110]) (.int .i64 2)<|gh λ_=>GR .string b (zS [116,101,120,116]) (.int .i64 3)<|gh λ_=>Pv (Ad a0) λd=>Lf 0 d λd=>Pv (ixV 4 d I0) λd=>Lf 2 d λd=>Rn (lkR .string I0 false b d) λb=>Pv (Ae 1 c) λd=>Sto 1 d b<|gh λ_=>sh264_1 ω a0 a c K Pn) (sh264_1 ω a0 a c K Pn)
def ANE:=zkp1 sh264 264 Tryz.func264
def AJV (ω:Om)(a0:Value)(K:Value→M):M:=Pv (Ad a0) λa=>Lf 0 a λa=>Pv (Gl .eql a N0) λa=>Br a (Rn (ALh a0) λa=>ExtE Tryz.prog ω Extern.AbiNoEscape.same #[a]<|gh λa=>Rn (ALi Tryz.prog 313 a) λa=>Pv (Ad a0) λb=>Pv (Ae 0 b) λb=>Sto 1 b a<|gh λ_=>K (Value.tuple #[])) (Pv (Ad a0) λa=>Lf 0 a λa=>Pv (Gl .neq a a0) λa=>Br a (F /- ('no','refuse') -/) (K (Value.tuple #[])))
def ANC:=zkc1 AJV 269 Tryz.func269
def AJU (ω:Om)(a0 a1:Value)(K:Value→M):M:=Bg λS=>Pv (Ad a0) λa=>Lg S 1 a λa=>Pv (WQ a) λa=>Pv (AA .mul (.int .i64 2) a) λa=>Pv (AA .add a a1) λa=>ExtE Tryz.prog ω (Extern.BytealgMakeNoZero.makeNoZero #[3] #[22]) #[a]<|gh<|AQ S λa=>Pv (Ad a0) λb=>Lg S 1 b λb=>Pv (lenV b) λb=>Pv (Bi 1 a none (some b) none) λa=>Pv (Ad a0) λb=>Lf 1 b λb=>APH 1 a b<|gh λ_=>Pv (Ad a0) λb=>Pv (Ae 1 b) λb=>Sto 1 b a<|gh λ_=>K (Value.tuple #[])
def ANB:=zkc2 AJU 270 Tryz.func270
def AJT (ω:Om)(a0 a1:Value)(K:Value→M):M:=Pv (GG .u32 a1) λa=>Pv (AA .leq a (.int .u32 127)) λa=>Br a (Pv (GG .u8 a1) λa=>AC 5 1 #[(.int .u8 0)] 1 [(0,a)]<|gh λa=>App 5 1 1 #[(.int .u8 0)] a0 a<|gh λa=>K a) (CT ω 282 #[a0,a1]<|gh λa=>K a)
def ANA:=zkc2 AJT 271 Tryz.func271
def AJS (ω:Om)(a0:Value)(K:Value→M)(Pn:Value→M):M:=New (.cells Zb 65 (0,0))<|gh λa=>AP Tryz.prog ω 152 #[a0,(zS [110,111,116])] Pn<|gh λb=>Br b (AP Tryz.prog ω 272 #[a0] Pn<|gh λb=>AC 65 11 Zb 1 [(0,b)]<|gh λb=>AP Tryz.prog ω 261 #[(.int .i64 5),b] Pn<|gh λb=>Sto 11 a b<|gh λ_=>Rn (AB 11 a) λa=>K a) (AP Tryz.prog ω 283 #[a0] Pn<|gh λb=>Sto 11 a b<|gh λ_=>Rn (AB 11 a) λa=>K a)
def AMz:=zkp1 AJS 272 Tryz.func272
def AJR (ω:Om)(a0:Value)(K:Value→M):M:=Pv (lenV a0) λa=>Pv (lenV a0) λb=>Pv (Bi 1 a0 none (some a) (some b)) λa=>K a
def AMy:=zkc1 AJR 273 Tryz.func273
def sh274 (ω:Om)(a0:Value)(K:Value→M)(Pn:Value→M):M:=New (.cells Zb 65 (0,0))<|gh λa=>AP Tryz.prog ω 284 #[a0] Pn<|gh λb=>Pv (exV b 0) λc=>Pv (exV b 1) λb=>New (.cells Zb 65 (0,0))<|gh λd=>Sto 11 d c<|gh λ_=>Br b (Rn (AB 11 d) λb=>Sto 11 a b<|gh λ_=>Rn (AB 11 a) λa=>K a) (AP Tryz.prog ω 152 #[a0,(zS [45])] Pn<|gh λb=>Br b (AP Tryz.prog ω 285 #[a0] Pn<|gh λb=>AC 65 11 Zb 1 [(0,b)]<|gh λb=>AP Tryz.prog ω 261 #[(.int .i64 4),b] Pn<|gh λb=>Sto 11 a b<|gh λ_=>Rn (AB 11 a) λa=>K a) (AP Tryz.prog ω 285 #[a0] Pn<|gh λb=>Sto 11 a b<|gh λ_=>Rn (AB 11 a) λa=>K a))
def AMx:=zkp1 sh274 274 Tryz.func274
def sh283_4 (ω:Om)(p0 p2:Value)(p3 p6:Value)(K:Value→M)(Pn:Value→M):M:=AC 9 1 Za 1 [(0,(zS [110,117,108,108]))]<|gh λa=>AP Tryz.prog ω 187 #[p0,a] Pn<|gh λ_=>Rn (AB 11 p3) λa=>AC 65 11 Zb 1 [(0,a)]<|gh λa=>AP Tryz.prog ω 261 #[p6,a] Pn<|gh λa=>Sto 11 p2 a<|gh λ_=>Rn (AB 11 p2) λa=>K a
def sh283_7 (ω:Om)(p2 p3 p7:Value)(K:Value→M)(Pn:Value→M):M:=Br p7 (Rn (AB 11 p3) λa=>AC 65 11 Zb 1 [(0,a)]<|gh λa=>AP Tryz.prog ω 261 #[(.int .i64 5),a] Pn<|gh λa=>Sto 11 p2 a<|gh λ_=>Rn (AB 11 p2) λa=>K a) (Rn (AB 11 p3) λa=>Sto 11 p2 a<|gh λ_=>Rn (AB 11 p2) λa=>K a)
def sh283_3 (ω:Om)(p0 p2 p3:Value)(K:Value→M)(Pn:Value→M):M:=AP Tryz.prog ω 152 #[p0,(zS [105,115])] Pn<|gh λa=>Br a (AP Tryz.prog ω 152 #[p0,(zS [110,111,116])] Pn<|gh λa=>Br a (sh283_4 ω p0 p2 p3 (.int .i64 7) K Pn) (sh283_4 ω p0 p2 p3 (.int .i64 6) K Pn)) (AP Tryz.prog ω 152 #[p0,(zS [110,111,116])] Pn<|gh λa=>AP Tryz.prog ω 152 #[p0,(zS [105,110])] Pn<|gh λb=>Br b (Bg λS=>Rs S (AB 11 p3) λb=>(λc d=>(AC 65 11 Zb 1 [(0,b)]<|gh λb=>AP Tryz.prog ω 191 #[p0] Pn<|gh<|AQ S λc=>App 65 11 128 Zb b c<|gh λb=>AP Tryz.prog ω 261 #[(.int .i64 24),b] Pn<|gh λb=>Sto 11 p3 b<|gh λ_=>sh283_7 ω p2 p3 a K Pn) c d∧(AP Tryz.prog ω 191 #[p0] Pn<|gh<|AQ S λc=>AC 65 11 Zb 1 [(0,b)]<|gh λb=>App 65 11 128 Zb b c<|gh λb=>AP Tryz.prog ω 261 #[(.int .i64 24),b] Pn<|gh λb=>Sto 11 p3 b<|gh λ_=>sh283_7 ω p2 p3 a K Pn) c d)) (AP Tryz.prog ω 152 #[p0,(zS [98,101,116,119,101,101,110])] Pn<|gh λb=>Br b (AP Tryz.prog ω 288 #[p0] Pn<|gh λb=>New (.cells Zb 65 (0,0))<|gh λc=>Sto 11 c b<|gh λ_=>AC 9 1 Za 1 [(0,(zS [97,110,100]))]<|gh λb=>AP Tryz.prog ω 187 #[p0,b] Pn<|gh λ_=>Bg λS=>Rs S (AB 11 p3) λb=>Rs S (AB 11 c) λc=>AP Tryz.prog ω 288 #[p0] Pn<|gh<|AQ S λd=>AC 65 11 Zb 3 [(0,b),(1,c),(2,d)]<|gh λb=>AP Tryz.prog ω 261 #[(.int .i64 25),b] Pn<|gh λb=>Sto 11 p3 b<|gh λ_=>sh283_7 ω p2 p3 a K Pn) (AP Tryz.prog ω 152 #[p0,(zS [108,105,107,101])] Pn<|gh λb=>Br b (Bg λS=>Rs S (AB 11 p3) λb=>AP Tryz.prog ω 288 #[p0] Pn<|gh<|AQ S λc=>AC 65 11 Zb 2 [(0,b),(1,c)]<|gh λb=>AP Tryz.prog ω 261 #[(.int .i64 23),b] Pn<|gh λb=>Sto 11 p3 b<|gh λ_=>sh283_7 ω p2 p3 a K Pn) (Br a (AP Tryz.prog ω 155 #[p0] Pn<|gh λ_=>sh283_7 ω p2 p3 a K Pn) (sh283_7 ω p2 p3 a K Pn)))))
def sh283_1 (ω:Om)(p0 p2:Value)(p3 p11:Value)(p12 x13:Value)(Kn0:(Value×Unit)→M)(K:Value→M)(Pn:Value→M):M:=Pv (AA .lss x13 p12) λa=>Br a (Pv (ixV 1 p11 x13) λa=>Rn (BF a) λa=>AP Tryz.prog ω 152 #[p0,a] Pn<|gh λa=>Br a (Bg λS=>Pv (AA .add (.int .i64 15) x13) λa=>Rs S (AB 11 p3) λb=>AP Tryz.prog ω 288 #[p0] Pn<|gh<|AQ S λc=>AC 65 11 Zb 2 [(0,b),(1,c)]<|gh λb=>AP Tryz.prog ω 261 #[a,b] Pn<|gh λa=>Sto 11 p2 a<|gh λ_=>Rn (AB 11 p2) λa=>K a) (Pv (AA .add x13 (.int .i64 1)) λa=>Kn0 (a,()))) (sh283_3 ω p0 p2 p3 K Pn)
def sh283 (ω:Om)(a0:Value)(K:Value→M)(Pn:Value→M):M:=New (.cells Zb 65 (0,0))<|gh λa=>AP Tryz.prog ω 288 #[a0] Pn<|gh λb=>New (.cells Zb 65 (0,0))<|gh λc=>Sto 11 c b<|gh λ_=>AC 9 1 Za 6 [(0,(zS [61])),(1,(zS [60,62])),(2,(zS [60])),(3,(zS [60,61])),(4,(zS [62])),(5,(zS [62,61]))]<|gh λb=>Pv (lenV b) λd=>Aq ((I0,()):Value×Unit) λs e=>sh283_1 ω a0 a c b d s.1 e K Pn
def AMw:=zkp1 sh283 283 Tryz.func283
def sh284_2 (ω:Om)(p0 p2:Value)(p3 p4:Value)(K:Value→M):M:=CT ω 185 #[p0]<|gh λ_=>Rn (AB 4 p4) λa=>Pv (AU Zb Zo [(0,(.int .i64 1)),(1,a)]) λa=>Sto 11 p2 a<|gh λ_=>Rn (AB 11 p2) λa=>K (Value.tuple #[a,Bt])
def sh284 (ω:Om)(a0:Value)(K:Value→M):M:=New (.cells Zb 65 (0,0))<|gh λa=>New (.cells Zs 62 (0,0))<|gh λb=>Pv (Ad a0) λc=>Lf 0 c λc=>Pv (ixV 4 c I0) λc=>Lf 0 c λc=>Pv (AA .eql c (.int .i64 4)) λc=>Br c (Pv (Ad a0) λc=>Lf 0 c λc=>Pv (ixV 4 c I0) λc=>Lf 2 c λc=>Pv (AU Zs Zq [(0,(.int .i64 3)),(3,c)]) λc=>Sto 4 b c<|gh λ_=>sh284_2 ω a0 a Bf b K) (CT ω 154 #[a0,(zS [116,114,117,101])]<|gh λc=>Br c (Pv (AU Zs Zq [(0,(.int .i64 2)),(2,(.int .i64 1))]) λc=>Sto 4 b c<|gh λ_=>sh284_2 ω a0 a Bf b K) (CT ω 154 #[a0,(zS [102,97,108,115,101])]<|gh λc=>Br c (Pv (AU Zs Zq [(0,(.int .i64 2))]) λc=>Sto 4 b c<|gh λ_=>sh284_2 ω a0 a Bf b K) (CT ω 154 #[a0,(zS [110,117,108,108])]<|gh λc=>Br c (Pv (AU Zs Zq [(0,(.int .i64 4)),(1,Bt)]) λc=>Sto 4 b c<|gh λ_=>sh284_2 ω a0 a Bf b K) (Pv (AU Zb Zo []) λb=>Sto 11 a b<|gh λ_=>Rn (AB 11 a) λa=>K (Value.tuple #[a,Bf])))))
def AMv:=zkc1 sh284 284 Tryz.func284
def AJQ (ω:Om)(a0:Value)(K:Value→M)(Pn:Value→M):M:=New (.cells Zb 65 (0,0))<|gh λa=>AP Tryz.prog ω 231 #[a0,(.int .i64 3)] Pn<|gh λb=>Pv (FK false 3 1 b) λb=>Pv (AU Zs Zq [(0,(.int .i64 1)),(2,b)]) λb=>Pv (AU Zb Zo [(0,(.int .i64 1)),(1,b)]) λb=>Sto 11 a b<|gh λ_=>Rn (AB 11 a) λa=>K a
def AMu:=zkp1 AJQ 285 Tryz.func285
def AJP (ω:Om)(a0:Value)(K:Value→M)(Pn:Value→M):M:=New (.cells Zb 65 (0,0))<|gh λa=>Uk<|gh λb=>GR .string b (zS [43]) (.int .i64 9)<|gh λ_=>GR .string b (zS [45]) (.int .i64 10)<|gh λ_=>GR .string b (zS [124,124]) (.int .i64 14)<|gh λ_=>AP Tryz.prog ω 291 #[a0,(Value.func (Fn.func 292) #[a0] #[]),b] Pn<|gh λb=>Sto 11 a b<|gh λ_=>Rn (AB 11 a) λa=>K a
def AMt:=zkp1 AJP 288 Tryz.func288
def sh291_3 (ω:Om)(p6 p7:Value)(K:Value→M)(Pn:Value→M):M:=Rn (AB 11 p7) λa=>Sto 11 p6 a<|gh λ_=>Rn (AB 11 p6) λa=>K a
def sh291_1 (ω:Om)(p0 p1:Value)(p2 p6 p7:Value)(Kn0:(Unit)→M)(K:Value→M)(Pn:Value→M):M:=Pv (Ad p0) λa=>Lf 0 a λa=>Pv (ixV 4 a I0) λa=>Lf 0 a λa=>Pv (AA .eql a (.int .i64 5)) λa=>Br a (Pv (Ad p0) λa=>Lf 0 a λa=>Pv (ixV 4 a I0) λa=>Lf 2 a λa=>Rn (lkR .string I0 true p2 a) λa=>Pv (exV a 0) λb=>Pv (exV a 1) λa=>Pv (unV .not a) λa=>Br a (sh291_3 ω p6 p7 K Pn) (AP Tryz.prog ω 185 #[p0] Pn<|gh λ_=>Bg λS=>Rs S (AB 11 p7) λa=>Gp Tryz.prog ω p1 #[] Pn<|gh<|AQ S λc=>AC 65 11 Zb 2 [(0,a),(1,c)]<|gh λa=>AP Tryz.prog ω 261 #[b,a] Pn<|gh λa=>Sto 11 p7 a<|gh λ_=>Kn0 (()))) (sh291_3 ω p6 p7 K Pn)
def sh291 (ω:Om)(a0 a1 a2:Value)(K:Value→M)(Pn:Value→M):M:=New (.cells Zb 65 (0,0))<|gh λa=>Gp Tryz.prog ω a1 #[] Pn<|gh λb=>New (.cells Zb 65 (0,0))<|gh λc=>Sto 11 c b<|gh λ_=>Aq ((()):Unit) λs b=>sh291_1 ω a0 a1 a2 a c b K Pn
def AMs:=zkp3 sh291 291 Tryz.func291
def AJO (ω:Om)(a0:Value)(K:Value→M)(Pn:Value→M):M:=New (.cells Zb 65 (0,0))<|gh λa=>Uk<|gh λb=>GR .string b (zS [42]) (.int .i64 11)<|gh λ_=>GR .string b (zS [47]) (.int .i64 12)<|gh λ_=>GR .string b (zS [37]) (.int .i64 13)<|gh λ_=>AP Tryz.prog ω 291 #[a0,(Value.func (Fn.func 294) #[a0] #[]),b] Pn<|gh λb=>Sto 11 a b<|gh λ_=>Rn (AB 11 a) λa=>K a
def AMr:=zkp1 AJO 292 Tryz.func292
def sh294_1 (ω:Om)(p0 p2 p6:Value)(K:Value→M)(Pn:Value→M):M:=AP Tryz.prog ω 152 #[p0,(zS [46])] Pn<|gh λa=>Br a (AP Tryz.prog ω 188 #[p0] Pn<|gh λa=>Pv (AU Zb Zo [(0,(.int .i64 2)),(2,p6),(3,a)]) λa=>Sto 11 p2 a<|gh λ_=>Rn (AB 11 p2) λa=>K a) (Pv (AU Zb Zo [(0,(.int .i64 2)),(3,p6)]) λa=>Sto 11 p2 a<|gh λ_=>Rn (AB 11 p2) λa=>K a)
def sh294 (ω:Om)(a0:Value)(K:Value→M)(Pn:Value→M):M:=New (.cells Zb 65 (0,0))<|gh λa=>AP Tryz.prog ω 152 #[a0,(zS [45])] Pn<|gh λb=>Br b (AP Tryz.prog ω 294 #[a0] Pn<|gh λb=>AC 65 11 Zb 1 [(0,b)]<|gh λb=>AP Tryz.prog ω 261 #[(.int .i64 4),b] Pn<|gh λb=>Sto 11 a b<|gh λ_=>Rn (AB 11 a) λa=>K a) (AP Tryz.prog ω 152 #[a0,(zS [40])] Pn<|gh λb=>Br b (AP Tryz.prog ω 227 #[a0] Pn<|gh λb=>New (.cells Zb 65 (0,0))<|gh λc=>Sto 11 c b<|gh λ_=>AC 9 1 Za 1 [(0,(zS [41]))]<|gh λb=>AP Tryz.prog ω 187 #[a0,b] Pn<|gh λ_=>Rn (AB 11 c) λb=>Sto 11 a b<|gh λ_=>Rn (AB 11 a) λa=>K a) (AP Tryz.prog ω 152 #[a0,(zS [99,97,115,101])] Pn<|gh λb=>Br b (AP Tryz.prog ω 297 #[a0] Pn<|gh λb=>Sto 11 a b<|gh λ_=>Rn (AB 11 a) λa=>K a) (Pv (Ad a0) λb=>Lf 0 b λb=>Pv (ixV 4 b I0) λb=>Lf 0 b λb=>Pv (AA .eql b (.int .i64 3)) λb=>Br b (AP Tryz.prog ω 285 #[a0] Pn<|gh λb=>Sto 11 a b<|gh λ_=>Rn (AB 11 a) λa=>K a) (AP Tryz.prog ω 284 #[a0] Pn<|gh λb=>Pv (exV b 0) λc=>Pv (exV b 1) λb=>New (.cells Zb 65 (0,0))<|gh λd=>Sto 11 d c<|gh λ_=>Br b (Rn (AB 11 d) λb=>Sto 11 a b<|gh λ_=>Rn (AB 11 a) λa=>K a) (AP Tryz.prog ω 188 #[a0] Pn<|gh λb=>AP Tryz.prog ω 154 #[a0,(zS [40])] Pn<|gh λc=>Br c (AP Tryz.prog ω 298 #[a0,b] Pn<|gh λc=>Pv (exV c 0) λd=>Pv (exV c 1) λc=>New (.cells Zb 65 (0,0))<|gh λe=>Sto 11 e d<|gh λ_=>Br c (Rn (AB 11 e) λb=>Sto 11 a b<|gh λ_=>Rn (AB 11 a) λa=>K a) (sh294_1 ω a0 a b K Pn)) (sh294_1 ω a0 a b K Pn))))))
def AMq:=zkp1 sh294 294 Tryz.func294
def Ny (ω:Om)(p0 p2 p3:Value)(K:Value→M)(Pn:Value→M):M:=AC 9 1 Za 1 [(0,(zS [101,110,100]))]<|gh λa=>AP Tryz.prog ω 187 #[p0,a] Pn<|gh λ_=>Rn (AB 11 p3) λa=>Sto 11 p2 a<|gh λ_=>Rn (AB 11 p2) λa=>K a
def Yo (ω:Om)(p0 p2 p3:Value)(K:Value→M)(Pn:Value→M):M:=AP Tryz.prog ω 152 #[p0,(zS [101,108,115,101])] Pn<|gh λa=>Br a (Bg λS=>Lg S 10 p3 λa=>AP Tryz.prog ω 227 #[p0] Pn<|gh<|AQ S λb=>AC 65 11 Zb 1 [(0,b)]<|gh<|AQ S λb=>App 65 11 128 Zb a b<|gh λa=>Pv (Ae 10 p3) λb=>Sto 1 b a<|gh λ_=>Ny ω p0 p2 p3 K Pn) (Ny ω p0 p2 p3 K Pn)
def Yp (ω:Om)(p0 p2 p3:Value)(Kn0:(Unit)→M)(K:Value→M)(Pn:Value→M):M:=Lf 10 p3 λa=>Pv (Hq .eql a S0) λa=>Gd a false (AP Tryz.prog ω 154 #[p0,(zS [119,104,101,110])] Pn<|gh λa=>Br a (AC 9 1 Za 1 [(0,(zS [119,104,101,110]))]<|gh λa=>AP Tryz.prog ω 187 #[p0,a] Pn<|gh λ_=>AP Tryz.prog ω 227 #[p0] Pn<|gh λa=>New (.cells Zb 65 (0,0))<|gh λb=>Sto 11 b a<|gh λ_=>AC 9 1 Za 1 [(0,(zS [116,104,101,110]))]<|gh λa=>AP Tryz.prog ω 187 #[p0,a] Pn<|gh λ_=>Bg λS=>Lg S 10 p3 λa=>Rs S (AB 11 b) λb=>AP Tryz.prog ω 227 #[p0] Pn<|gh<|AQ S λc=>AC 65 11 Zb 2 [(0,b),(1,c)]<|gh<|AQ S λb=>App 65 11 128 Zb a b<|gh λa=>Pv (Ae 10 p3) λb=>Sto 1 b a<|gh λ_=>Kn0 (())) (Yo ω p0 p2 p3 K Pn)) (AC 9 1 Za 1 [(0,(zS [119,104,101,110]))]<|gh λa=>AP Tryz.prog ω 187 #[p0,a] Pn<|gh λ_=>AP Tryz.prog ω 227 #[p0] Pn<|gh λa=>New (.cells Zb 65 (0,0))<|gh λb=>Sto 11 b a<|gh λ_=>AC 9 1 Za 1 [(0,(zS [116,104,101,110]))]<|gh λa=>AP Tryz.prog ω 187 #[p0,a] Pn<|gh λ_=>Bg λS=>Lg S 10 p3 λa=>Rs S (AB 11 b) λb=>AP Tryz.prog ω 227 #[p0] Pn<|gh<|AQ S λc=>AC 65 11 Zb 2 [(0,b),(1,c)]<|gh<|AQ S λb=>App 65 11 128 Zb a b<|gh λa=>Pv (Ae 10 p3) λb=>Sto 1 b a<|gh λ_=>Kn0 (()))
def AJN (ω:Om)(a0:Value)(K:Value→M)(Pn:Value→M):M:=New (.cells Zb 65 (0,0))<|gh λa=>Pv (AU Zb Zo [(0,(.int .i64 26))]) λb=>New (.cells Zb 65 (0,0))<|gh λc=>Sto 11 c b<|gh λ_=>Aq ((()):Unit) λs b=>Yp ω a0 a c b K Pn
def AMp:=zkp1 AJN 297 Tryz.func297
def sh298_3 (ω:Om)(p0 p4:Value)(p5 p7:Value)(K:Value→M)(Pn:Value→M):M:=AC 9 1 Za 1 [(0,(zS [41]))]<|gh λa=>AP Tryz.prog ω 187 #[p0,a] Pn<|gh λ_=>Rn (AB 11 p7) λa=>Sto 11 p4 a<|gh λ_=>Rn (AB 11 p4) λa=>K (Value.tuple #[a,Bt])
def sh298_2 (ω:Om)(p0 p4:Value)(p5 p7:Value)(K:Value→M)(Pn:Value→M):M:=Pv (AU Zb Zo [(0,(.int .i64 3))]) λa=>AC 65 11 Zb 1 [(0,a)]<|gh λa=>Pv (Ae 10 p7) λb=>Sto 1 b a<|gh λ_=>sh298_3 ω p0 p4 p5 p7 K Pn
def sh298_4 (ω:Om)(p0 p4:Value)(p5 p7:Value)(K:Value→M)(Pn:Value→M):M:=AP Tryz.prog ω 152 #[p0,(zS [100,105,115,116,105,110,99,116])] Pn<|gh λa=>Pv (Ae 9 p7) λb=>Sto 1 b a<|gh λ_=>AP Tryz.prog ω 227 #[p0] Pn<|gh λa=>AC 65 11 Zb 1 [(0,a)]<|gh λa=>Pv (Ae 10 p7) λb=>Sto 1 b a<|gh λ_=>sh298_3 ω p0 p4 p5 p7 K Pn
def sh298_1 (ω:Om)(p0 p1:Value)(p4 p5 p27:Value)(K:Value→M)(Pn:Value→M):M:=Br p27 (AC 9 1 Za 1 [(0,(zS [40]))]<|gh λa=>AP Tryz.prog ω 187 #[p0,a] Pn<|gh λ_=>Pv (AU Zb Zo [(0,(.int .i64 28)),(3,p1)]) λa=>New (.cells Zb 65 (0,0))<|gh λb=>Sto 11 b a<|gh λ_=>Pv (BB .eql p1 (zS [99,111,117,110,116])) λa=>Gd a true (AP Tryz.prog ω 152 #[p0,(zS [42])] Pn<|gh λa=>Br a (sh298_2 ω p0 p4 p5 b K Pn) (sh298_4 ω p0 p4 p5 b K Pn)) (sh298_4 ω p0 p4 p5 b K Pn)) (Pv (AU Zb Zo []) λa=>Sto 11 p4 a<|gh λ_=>Rn (AB 11 p4) λa=>K (Value.tuple #[a,Bf]))
def sh298 (ω:Om)(a0 a1:Value)(K:Value→M)(Pn:Value→M):M:=New (.cells Zb 65 (0,0))<|gh λa=>Pv (BB .eql a1 (zS [99,111,97,108,101,115,99,101])) λb=>Br b (AP Tryz.prog ω 191 #[a0] Pn<|gh λb=>AP Tryz.prog ω 261 #[(.int .i64 27),b] Pn<|gh λb=>Sto 11 a b<|gh λ_=>Rn (AB 11 a) λa=>K (Value.tuple #[a,Bt])) (Pv (BB .eql a1 (zS [108,101,110,103,116,104])) λb=>Br b (AC 9 1 Za 1 [(0,(zS [40]))]<|gh λb=>AP Tryz.prog ω 187 #[a0,b] Pn<|gh λ_=>AP Tryz.prog ω 227 #[a0] Pn<|gh λb=>AC 65 11 Zb 1 [(0,b)]<|gh λb=>AP Tryz.prog ω 261 #[(.int .i64 8),b] Pn<|gh λb=>New (.cells Zb 65 (0,0))<|gh λc=>Sto 11 c b<|gh λ_=>AC 9 1 Za 1 [(0,(zS [41]))]<|gh λb=>AP Tryz.prog ω 187 #[a0,b] Pn<|gh λ_=>Rn (AB 11 c) λb=>Sto 11 a b<|gh λ_=>Rn (AB 11 a) λa=>K (Value.tuple #[a,Bt])) (Pv (BB .eql a1 (zS [99,111,117,110,116])) λb=>Br b (sh298_1 ω a0 a1 a Bf b K Pn) (Pv (BB .eql a1 (zS [115,117,109])) λb=>Br b (sh298_1 ω a0 a1 a Bf b K Pn) (Pv (BB .eql a1 (zS [109,105,110])) λb=>Br b (sh298_1 ω a0 a1 a Bf b K Pn) (Pv (BB .eql a1 (zS [109,97,120])) λb=>Br b (sh298_1 ω a0 a1 a Bf b K Pn) (Pv (BB .eql a1 (zS [97,118,103])) λb=>sh298_1 ω a0 a1 a Bf b K Pn))))))
def AMo:=zkp2 sh298 298 Tryz.func298
theorem ALY (x0:Option Addr)(x1:Option Addr)(x2:Nat)(x3:Nat):AU #[(.pointer none),(.slice none 0 0),(.int .i64 0),(.slice none 0 0),(.slice none 0 0)] #[(0,1),(1,1),(2,1),(3,1),(4,1)] [(0,.pointer x0),(1,.slice x1 x2 x3)]=some (.agg #[.pointer x0,.slice x1 x2 x3,(.int .i64 0),(.slice none 0 0),(.slice none 0 0)]):=by kernel_rfl
theorem ALX:AU #[(.slice none 0 0),(.slice none 0 0),(.slice none 0 0),(.slice none 0 0),(Value.string (ByteArray.mk #[]))] #[(0,1),(1,1),(2,1),(3,1),(4,1)] []=some (.agg #[(.slice none 0 0),(.slice none 0 0),(.slice none 0 0),(.slice none 0 0),(Value.string (ByteArray.mk #[]))]):=by kernel_rfl
theorem ALW (x0:Int)(x1:Int):AU #[(.int .i64 0),(.int .i64 0),(.int .u8 0),(.slice none 0 0),(.bool false),(.slice none 0 0),(.int .i64 0),(.int .i64 0),(.bool false),(.slice none 0 0),(.slice none 0 0),(.int .i64 0),(.int .i64 0),(.bool false),(.int .i64 0),(Value.string (ByteArray.mk #[])),(Value.string (ByteArray.mk #[])),(Value.string (ByteArray.mk #[])),(.int .i64 0),(.int .i64 0),(.bool false),(.slice none 0 0),(.slice none 0 0),(.int .i64 0),(.int .i64 0),(.bool false),(.int .i64 0),(Value.string (ByteArray.mk #[])),(Value.string (ByteArray.mk #[])),(Value.string (ByteArray.mk #[])),(.int .i64 0),(.int .i64 0),(.bool false),(.slice none 0 0),(.slice none 0 0),(.int .i64 0),(.int .i64 0),(Value.string (ByteArray.mk #[])),(.slice none 0 0),(.slice none 0 0),(.slice none 0 0),(.int .i64 0),(.int .i64 0),(.bool false),(.int .i64 0),(Value.string (ByteArray.mk #[])),(Value.string (ByteArray.mk #[])),(Value.string (ByteArray.mk #[])),(.int .i64 0),(.int .i64 0),(.bool false),(.slice none 0 0),(.slice none 0 0),(.slice none 0 0),(Value.string (ByteArray.mk #[])),(Value.string (ByteArray.mk #[])),(.slice none 0 0),(.bool false),(.bool false),(.bool false),(.slice none 0 0)] #[(0,1),(1,1),(2,1),(3,1),(4,1),(5,1),(6,53),(59,1),(60,1)] [(0,.int .i64 x0),(1,.int .i64 x1)]=some (.agg #[.int .i64 x0,.int .i64 x1,(.int .u8 0),(.slice none 0 0),(.bool false),(.slice none 0 0),(.int .i64 0),(.int .i64 0),(.bool false),(.slice none 0 0),(.slice none 0 0),(.int .i64 0),(.int .i64 0),(.bool false),(.int .i64 0),(Value.string (ByteArray.mk #[])),(Value.string (ByteArray.mk #[])),(Value.string (ByteArray.mk #[])),(.int .i64 0),(.int .i64 0),(.bool false),(.slice none 0 0),(.slice none 0 0),(.int .i64 0),(.int .i64 0),(.bool false),(.int .i64 0),(Value.string (ByteArray.mk #[])),(Value.string (ByteArray.mk #[])),(Value.string (ByteArray.mk #[])),(.int .i64 0),(.int .i64 0),(.bool false),(.slice none 0 0),(.slice none 0 0),(.int .i64 0),(.int .i64 0),(Value.string (ByteArray.mk #[])),(.slice none 0 0),(.slice none 0 0),(.slice none 0 0),(.int .i64 0),(.int .i64 0),(.bool false),(.int .i64 0),(Value.string (ByteArray.mk #[])),(Value.string (ByteArray.mk #[])),(Value.string (ByteArray.mk #[])),(.int .i64 0),(.int .i64 0),(.bool false),(.slice none 0 0),(.slice none 0 0),(.slice none 0 0),(Value.string (ByteArray.mk #[])),(Value.string (ByteArray.mk #[])),(.slice none 0 0),(.bool false),(.bool false),(.bool false),(.slice none 0 0)]):=by kernel_rfl
theorem ALV (x0:ByteArray):AU #[(.slice none 0 0),(.slice none 0 0),(.slice none 0 0),(.slice none 0 0),(Value.string (ByteArray.mk #[]))] #[(0,1),(1,1),(2,1),(3,1),(4,1)] [(4,.string x0)]=some (.agg #[(.slice none 0 0),(.slice none 0 0),(.slice none 0 0),(.slice none 0 0),.string x0]):=by kernel_rfl
theorem ALU (x0:Option Addr)(x1:Nat)(x2:Nat)(x3:Option Addr)(x4:Nat)(x5:Nat)(x6:Option Addr)(x7:Nat)(x8:Nat)(x9:Option Addr)(x10:Nat)(x11:Nat)(x12:ByteArray):AU #[(.slice none 0 0),(.slice none 0 0),(.slice none 0 0),(.slice none 0 0),(Value.string (ByteArray.mk #[])),(.int .i64 0)] #[(0,5),(5,1)] [(0,.agg #[.slice x0 x1 x2,.slice x3 x4 x5,.slice x6 x7 x8,.slice x9 x10 x11,.string x12])]=some (.agg #[.slice x0 x1 x2,.slice x3 x4 x5,.slice x6 x7 x8,.slice x9 x10 x11,.string x12,(.int .i64 0)]):=by kernel_rfl
theorem ALT:AU Zv Zw []=some (.agg Zv):=by kernel_rfl
theorem ALS:AU Zc Zd []=some (.agg Zc):=by kernel_rfl
theorem ALR (x0:Int):AU Zc Zd [(0,.int .i64 x0)]=some (.agg #[.int .i64 x0,(Value.string (ByteArray.mk #[])),(Value.string (ByteArray.mk #[])),(.int .i64 0),(.int .i64 0),(.int .u8 0),(.slice none 0 0),(.slice none 0 0),(Value.string (ByteArray.mk #[])),(.bool false)]):=by kernel_rfl
theorem ALQ (x0:Int)(x1:ByteArray)(x2:ByteArray)(x3:Bool):AU Zc Zd [(0,.int .i64 x0),(8,.string x1),(2,.string x2),(9,.bool x3)]=some (.agg #[.int .i64 x0,(Value.string (ByteArray.mk #[])),.string x2,(.int .i64 0),(.int .i64 0),(.int .u8 0),(.slice none 0 0),(.slice none 0 0),.string x1,.bool x3]):=by kernel_rfl
theorem AHL (x0:Int)(x1:Int):AU Zc Zd [(0,.int .i64 x0),(5,.int .u8 x1)]=some (.agg #[.int .i64 x0,(Value.string (ByteArray.mk #[])),(Value.string (ByteArray.mk #[])),(.int .i64 0),(.int .i64 0),.int .u8 x1,(.slice none 0 0),(.slice none 0 0),(Value.string (ByteArray.mk #[])),(.bool false)]):=by kernel_rfl
theorem AHK (x0:Int)(x1:Option Addr)(x2:Nat)(x3:Nat):AU Zc Zd [(0,.int .i64 x0),(6,.slice x1 x2 x3)]=some (.agg #[.int .i64 x0,(Value.string (ByteArray.mk #[])),(Value.string (ByteArray.mk #[])),(.int .i64 0),(.int .i64 0),(.int .u8 0),.slice x1 x2 x3,(.slice none 0 0),(Value.string (ByteArray.mk #[])),(.bool false)]):=by kernel_rfl
theorem AHJ (x0:Int)(x1:ByteArray):AU Zc Zd [(0,.int .i64 x0),(2,.string x1)]=some (.agg #[.int .i64 x0,(Value.string (ByteArray.mk #[])),.string x1,(.int .i64 0),(.int .i64 0),(.int .u8 0),(.slice none 0 0),(.slice none 0 0),(Value.string (ByteArray.mk #[])),(.bool false)]):=by kernel_rfl
theorem AHI (x0:Int):AU Zv Zw [(0,.int .i64 x0)]=some (.agg #[.int .i64 x0,(.int .i64 0),(.bool false),(.slice none 0 0),(.slice none 0 0),(.int .i64 0),(.int .i64 0),(.bool false),(.int .i64 0),(Value.string (ByteArray.mk #[])),(Value.string (ByteArray.mk #[])),(Value.string (ByteArray.mk #[])),(.int .i64 0),(.int .i64 0),(.bool false),(.slice none 0 0),(.slice none 0 0),(.int .i64 0),(.int .i64 0),(.bool false),(.int .i64 0),(Value.string (ByteArray.mk #[])),(Value.string (ByteArray.mk #[])),(Value.string (ByteArray.mk #[])),(.int .i64 0),(.int .i64 0),(.bool false),(.slice none 0 0),(.slice none 0 0),(.int .i64 0),(.int .i64 0),(Value.string (ByteArray.mk #[])),(.slice none 0 0),(.slice none 0 0),(.slice none 0 0),(.int .i64 0),(.int .i64 0),(.bool false),(.int .i64 0),(Value.string (ByteArray.mk #[])),(Value.string (ByteArray.mk #[])),(Value.string (ByteArray.mk #[])),(.int .i64 0),(.int .i64 0),(.bool false),(.slice none 0 0),(.slice none 0 0),(.slice none 0 0),(Value.string (ByteArray.mk #[])),(Value.string (ByteArray.mk #[])),(.slice none 0 0),(.bool false),(.bool false)]):=by kernel_rfl
theorem AHH (x0:Int)(x1:Int)(x2:Int):AU Zc Zd [(0,.int .i64 x0),(3,.int .i64 x1),(4,.int .i64 x2)]=some (.agg #[.int .i64 x0,(Value.string (ByteArray.mk #[])),(Value.string (ByteArray.mk #[])),.int .i64 x1,.int .i64 x2,(.int .u8 0),(.slice none 0 0),(.slice none 0 0),(Value.string (ByteArray.mk #[])),(.bool false)]):=by kernel_rfl
theorem AHG (x0:Int)(x1:ByteArray)(x2:ByteArray):AU Zc Zd [(0,.int .i64 x0),(1,.string x1),(2,.string x2)]=some (.agg #[.int .i64 x0,.string x1,.string x2,(.int .i64 0),(.int .i64 0),(.int .u8 0),(.slice none 0 0),(.slice none 0 0),(Value.string (ByteArray.mk #[])),(.bool false)]):=by kernel_rfl
theorem AHF (x0:Int)(x1:Bool)(x2:ByteArray)(x3:ByteArray):AU Zc Zd [(0,.int .i64 x0),(9,.bool x1),(8,.string x2),(2,.string x3)]=some (.agg #[.int .i64 x0,(Value.string (ByteArray.mk #[])),.string x3,(.int .i64 0),(.int .i64 0),(.int .u8 0),(.slice none 0 0),(.slice none 0 0),.string x2,.bool x1]):=by kernel_rfl
theorem AHE (x0:Int)(x1:ByteArray)(x2:ByteArray):AU Zc Zd [(0,.int .i64 x0),(8,.string x1),(2,.string x2)]=some (.agg #[.int .i64 x0,(Value.string (ByteArray.mk #[])),.string x2,(.int .i64 0),(.int .i64 0),(.int .u8 0),(.slice none 0 0),(.slice none 0 0),.string x1,(.bool false)]):=by kernel_rfl
theorem AHD (x0:Int)(x1:Int)(x2:Bool)(x3:Option Addr)(x4:Nat)(x5:Nat)(x6:Option Addr)(x7:Nat)(x8:Nat)(x9:Int)(x10:Int)(x11:Bool)(x12:Int)(x13:ByteArray)(x14:ByteArray)(x15:ByteArray)(x16:Int)(x17:Int)(x18:Bool)(x19:Option Addr)(x20:Nat)(x21:Nat)(x22:Option Addr)(x23:Nat)(x24:Nat)(x25:Int)(x26:Int)(x27:Bool)(x28:Int)(x29:ByteArray)(x30:ByteArray)(x31:ByteArray)(x32:Int)(x33:Int)(x34:Bool)(x35:Option Addr)(x36:Nat)(x37:Nat)(x38:Option Addr)(x39:Nat)(x40:Nat)(x41:Int)(x42:Int)(x43:ByteArray)(x44:Option Addr)(x45:Nat)(x46:Nat)(x47:Option Addr)(x48:Nat)(x49:Nat)(x50:Option Addr)(x51:Nat)(x52:Nat)(x53:Int)(x54:Int)(x55:Bool)(x56:Int)(x57:ByteArray)(x58:ByteArray)(x59:ByteArray)(x60:Int)(x61:Int)(x62:Bool)(x63:Option Addr)(x64:Nat)(x65:Nat)(x66:Option Addr)(x67:Nat)(x68:Nat)(x69:Option Addr)(x70:Nat)(x71:Nat)(x72:ByteArray)(x73:ByteArray)(x74:Option Addr)(x75:Nat)(x76:Nat)(x77:Bool)(x78:Bool):AU Zv Zw [(0,.int .i64 x0),(1,.agg #[.int .i64 x1,.bool x2,.slice x3 x4 x5,.slice x6 x7 x8,.int .i64 x9,.int .i64 x10,.bool x11,.int .i64 x12,.string x13,.string x14,.string x15,.int .i64 x16,.int .i64 x17,.bool x18,.slice x19 x20 x21,.slice x22 x23 x24,.int .i64 x25,.int .i64 x26,.bool x27,.int .i64 x28,.string x29,.string x30,.string x31,.int .i64 x32,.int .i64 x33,.bool x34,.slice x35 x36 x37,.slice x38 x39 x40,.int .i64 x41,.int .i64 x42,.string x43,.slice x44 x45 x46,.slice x47 x48 x49,.slice x50 x51 x52,.int .i64 x53,.int .i64 x54,.bool x55,.int .i64 x56,.string x57,.string x58,.string x59,.int .i64 x60,.int .i64 x61,.bool x62,.slice x63 x64 x65,.slice x66 x67 x68,.slice x69 x70 x71,.string x72,.string x73,.slice x74 x75 x76,.bool x77]),(2,.bool x78)]=some (.agg #[.int .i64 x0,.int .i64 x1,.bool x2,.slice x3 x4 x5,.slice x6 x7 x8,.int .i64 x9,.int .i64 x10,.bool x11,.int .i64 x12,.string x13,.string x14,.string x15,.int .i64 x16,.int .i64 x17,.bool x18,.slice x19 x20 x21,.slice x22 x23 x24,.int .i64 x25,.int .i64 x26,.bool x27,.int .i64 x28,.string x29,.string x30,.string x31,.int .i64 x32,.int .i64 x33,.bool x34,.slice x35 x36 x37,.slice x38 x39 x40,.int .i64 x41,.int .i64 x42,.string x43,.slice x44 x45 x46,.slice x47 x48 x49,.slice x50 x51 x52,.int .i64 x53,.int .i64 x54,.bool x55,.int .i64 x56,.string x57,.string x58,.string x59,.int .i64 x60,.int .i64 x61,.bool x62,.slice x63 x64 x65,.slice x66 x67 x68,.slice x69 x70 x71,.string x72,.string x73,.slice x74 x75 x76,.bool x77,.bool x78]):=by kernel_rfl
theorem AHC:AU Zg Zm []=some (.agg Zg):=by kernel_rfl
theorem AHB (x0:Bool):AU Zj #[(0,1),(1,1)] [(0,.bool x0)]=some (.agg #[.bool x0,(Value.string (ByteArray.mk #[]))]):=by kernel_rfl
theorem AHA (x0:ByteArray):AU Zj #[(0,1),(1,1)] [(1,.string x0)]=some (.agg #[(.bool false),.string x0]):=by kernel_rfl
theorem AGz (x0:ByteArray)(x1:Int):AU Za1 #[(0,1),(1,1)] [(0,.string x0),(1,.int .i64 x1)]=some (.agg #[.string x0,.int .i64 x1]):=by kernel_rfl
theorem AGy (x0:ByteArray)(x1:ByteArray):AU Ze #[(0,1),(1,1)] [(0,.string x0),(1,.string x1)]=some (.agg #[.string x0,.string x1]):=by kernel_rfl
theorem AGx (x0:Option Addr)(x1:Nat)(x2:Nat):AU Zp #[(0,1),(1,1)] [(0,.slice x0 x1 x2)]=some (.agg #[.slice x0 x1 x2,(.bool false)]):=by kernel_rfl
theorem AGw (x0:ByteArray):AU Ze #[(0,1),(1,1)] [(0,.string x0)]=some (.agg #[.string x0,(Value.string (ByteArray.mk #[]))]):=by kernel_rfl
theorem AGv (x0:Int)(x1:Int):AU Zg Zm [(0,.int .i64 x0),(5,.int .u8 x1)]=some (.agg #[.int .i64 x0,(.slice none 0 0),(Value.string (ByteArray.mk #[])),(.int .i64 0),(.int .i64 0),.int .u8 x1]):=by kernel_rfl
theorem AGu (x0:Int)(x1:ByteArray):AU Zg Zm [(0,.int .i64 x0),(2,.string x1)]=some (.agg #[.int .i64 x0,(.slice none 0 0),.string x1,(.int .i64 0),(.int .i64 0),(.int .u8 0)]):=by kernel_rfl
theorem AGt (x0:Int):AU Zg Zm [(0,.int .i64 x0)]=some (.agg #[.int .i64 x0,(.slice none 0 0),(Value.string (ByteArray.mk #[])),(.int .i64 0),(.int .i64 0),(.int .u8 0)]):=by kernel_rfl
theorem AGs (x0:Int)(x1:Int):AU Zi #[(0,1),(1,1)] [(0,.int .i64 x0),(1,.int .i64 x1)]=some (.agg #[.int .i64 x0,.int .i64 x1]):=by kernel_rfl
theorem AGr:AU Zi #[(0,1),(1,1)] []=some (.agg Zi):=by kernel_rfl
theorem AGq (x0:Option Addr)(x1:Nat)(x2:Nat):AU #[(.slice none 0 0)] #[(0,1)] [(0,.slice x0 x1 x2)]=some (.agg #[.slice x0 x1 x2]):=by kernel_rfl
theorem AGp (x0:ByteArray)(x1:Option Addr)(x2:Nat)(x3:Nat):AU #[(Value.string (ByteArray.mk #[])),(.int .i64 0),(.slice none 0 0)] #[(0,1),(1,1),(2,1)] [(0,.string x0),(2,.slice x1 x2 x3)]=some (.agg #[.string x0,(.int .i64 0),.slice x1 x2 x3]):=by kernel_rfl
theorem AGo (x0:Int)(x1:Int):AU Zk Zq [(0,.int .i64 x0),(1,.int .i64 x1)]=some (.agg #[.int .i64 x0,.int .i64 x1,(Value.string (ByteArray.mk #[])),(.int .i64 0)]):=by kernel_rfl
theorem AGn (x0:Int)(x1:Bool)(x2:Option Addr)(x3:Nat)(x4:Nat)(x5:Option Addr)(x6:Nat)(x7:Nat)(x8:Int)(x9:Int)(x10:Bool)(x11:Int)(x12:ByteArray)(x13:ByteArray)(x14:ByteArray)(x15:Int)(x16:Int)(x17:Bool)(x18:Option Addr)(x19:Nat)(x20:Nat)(x21:Option Addr)(x22:Nat)(x23:Nat)(x24:Int)(x25:Int)(x26:Bool)(x27:Int)(x28:ByteArray)(x29:ByteArray)(x30:ByteArray)(x31:Int)(x32:Int)(x33:Bool)(x34:Option Addr)(x35:Nat)(x36:Nat)(x37:Option Addr)(x38:Nat)(x39:Nat)(x40:Int)(x41:Int):AU Zf Zn [(0,.int .i64 x0),(1,.agg #[.bool x1,.slice x2 x3 x4,.slice x5 x6 x7,.int .i64 x8,.int .i64 x9,.bool x10,.int .i64 x11,.string x12,.string x13,.string x14,.int .i64 x15,.int .i64 x16,.bool x17,.slice x18 x19 x20,.slice x21 x22 x23,.int .i64 x24,.int .i64 x25,.bool x26,.int .i64 x27,.string x28,.string x29,.string x30,.int .i64 x31,.int .i64 x32,.bool x33,.slice x34 x35 x36,.slice x37 x38 x39,.int .i64 x40,.int .i64 x41])]=some (.agg #[.int .i64 x0,.bool x1,.slice x2 x3 x4,.slice x5 x6 x7,.int .i64 x8,.int .i64 x9,.bool x10,.int .i64 x11,.string x12,.string x13,.string x14,.int .i64 x15,.int .i64 x16,.bool x17,.slice x18 x19 x20,.slice x21 x22 x23,.int .i64 x24,.int .i64 x25,.bool x26,.int .i64 x27,.string x28,.string x29,.string x30,.int .i64 x31,.int .i64 x32,.bool x33,.slice x34 x35 x36,.slice x37 x38 x39,.int .i64 x40,.int .i64 x41,(Value.string (ByteArray.mk #[])),(.slice none 0 0),(.slice none 0 0),(.slice none 0 0),(.int .i64 0),(.int .i64 0),(.bool false),(.int .i64 0),(Value.string (ByteArray.mk #[])),(Value.string (ByteArray.mk #[])),(Value.string (ByteArray.mk #[])),(.int .i64 0),(.int .i64 0),(.bool false),(.slice none 0 0),(.slice none 0 0),(.slice none 0 0),(Value.string (ByteArray.mk #[])),(Value.string (ByteArray.mk #[])),(.slice none 0 0),(.bool false)]):=by kernel_rfl
theorem AGm (x0:Int)(x1:ByteArray):AU Zf Zn [(0,.int .i64 x0),(2,.string x1)]=some (.agg #[.int .i64 x0,(.bool false),(.slice none 0 0),(.slice none 0 0),(.int .i64 0),(.int .i64 0),(.bool false),(.int .i64 0),(Value.string (ByteArray.mk #[])),(Value.string (ByteArray.mk #[])),(Value.string (ByteArray.mk #[])),(.int .i64 0),(.int .i64 0),(.bool false),(.slice none 0 0),(.slice none 0 0),(.int .i64 0),(.int .i64 0),(.bool false),(.int .i64 0),(Value.string (ByteArray.mk #[])),(Value.string (ByteArray.mk #[])),(Value.string (ByteArray.mk #[])),(.int .i64 0),(.int .i64 0),(.bool false),(.slice none 0 0),(.slice none 0 0),(.int .i64 0),(.int .i64 0),.string x1,(.slice none 0 0),(.slice none 0 0),(.slice none 0 0),(.int .i64 0),(.int .i64 0),(.bool false),(.int .i64 0),(Value.string (ByteArray.mk #[])),(Value.string (ByteArray.mk #[])),(Value.string (ByteArray.mk #[])),(.int .i64 0),(.int .i64 0),(.bool false),(.slice none 0 0),(.slice none 0 0),(.slice none 0 0),(Value.string (ByteArray.mk #[])),(Value.string (ByteArray.mk #[])),(.slice none 0 0),(.bool false)]):=by kernel_rfl
theorem AGl (x0:ByteArray):AU Zc1 Zq [(0,.string x0)]=some (.agg #[.string x0,(Value.string (ByteArray.mk #[])),(.slice none 0 0),(.bool false)]):=by kernel_rfl
theorem AGk (x0:Int)(x1:ByteArray)(x2:ByteArray)(x3:Option Addr)(x4:Nat)(x5:Nat)(x6:Bool):AU Zf Zn [(0,.int .i64 x0),(9,.agg #[.string x1,.string x2,.slice x3 x4 x5,.bool x6])]=some (.agg #[.int .i64 x0,(.bool false),(.slice none 0 0),(.slice none 0 0),(.int .i64 0),(.int .i64 0),(.bool false),(.int .i64 0),(Value.string (ByteArray.mk #[])),(Value.string (ByteArray.mk #[])),(Value.string (ByteArray.mk #[])),(.int .i64 0),(.int .i64 0),(.bool false),(.slice none 0 0),(.slice none 0 0),(.int .i64 0),(.int .i64 0),(.bool false),(.int .i64 0),(Value.string (ByteArray.mk #[])),(Value.string (ByteArray.mk #[])),(Value.string (ByteArray.mk #[])),(.int .i64 0),(.int .i64 0),(.bool false),(.slice none 0 0),(.slice none 0 0),(.int .i64 0),(.int .i64 0),(Value.string (ByteArray.mk #[])),(.slice none 0 0),(.slice none 0 0),(.slice none 0 0),(.int .i64 0),(.int .i64 0),(.bool false),(.int .i64 0),(Value.string (ByteArray.mk #[])),(Value.string (ByteArray.mk #[])),(Value.string (ByteArray.mk #[])),(.int .i64 0),(.int .i64 0),(.bool false),(.slice none 0 0),(.slice none 0 0),(.slice none 0 0),.string x1,.string x2,.slice x3 x4 x5,.bool x6]):=by kernel_rfl
theorem AGj (x0:Int):AU Zf Zn [(0,.int .i64 x0)]=some (.agg #[.int .i64 x0,(.bool false),(.slice none 0 0),(.slice none 0 0),(.int .i64 0),(.int .i64 0),(.bool false),(.int .i64 0),(Value.string (ByteArray.mk #[])),(Value.string (ByteArray.mk #[])),(Value.string (ByteArray.mk #[])),(.int .i64 0),(.int .i64 0),(.bool false),(.slice none 0 0),(.slice none 0 0),(.int .i64 0),(.int .i64 0),(.bool false),(.int .i64 0),(Value.string (ByteArray.mk #[])),(Value.string (ByteArray.mk #[])),(Value.string (ByteArray.mk #[])),(.int .i64 0),(.int .i64 0),(.bool false),(.slice none 0 0),(.slice none 0 0),(.int .i64 0),(.int .i64 0),(Value.string (ByteArray.mk #[])),(.slice none 0 0),(.slice none 0 0),(.slice none 0 0),(.int .i64 0),(.int .i64 0),(.bool false),(.int .i64 0),(Value.string (ByteArray.mk #[])),(Value.string (ByteArray.mk #[])),(Value.string (ByteArray.mk #[])),(.int .i64 0),(.int .i64 0),(.bool false),(.slice none 0 0),(.slice none 0 0),(.slice none 0 0),(Value.string (ByteArray.mk #[])),(Value.string (ByteArray.mk #[])),(.slice none 0 0),(.bool false)]):=by kernel_rfl
theorem AGi (x0:Int):AU #[(.int .i64 0)] #[(0,1)] [(0,.int .i64 x0)]=some (.agg #[.int .i64 x0]):=by kernel_rfl
theorem AGh (x0:Int):AU Zk Zq [(1,.int .i64 x0)]=some (.agg #[(.int .i64 0),.int .i64 x0,(Value.string (ByteArray.mk #[])),(.int .i64 0)]):=by kernel_rfl
theorem AGg (x0:Int)(x1:Bool):AU Zd1 #[(0,1),(1,1),(2,1),(3,11),(14,1),(15,11),(26,1),(27,1),(28,1)] [(7,.int .i64 x0),(0,.bool x1)]=some (.agg #[.bool x1,(.slice none 0 0),(.slice none 0 0),(.int .i64 0),(.int .i64 0),(.bool false),(.int .i64 0),(Value.string (ByteArray.mk #[])),(Value.string (ByteArray.mk #[])),(Value.string (ByteArray.mk #[])),(.int .i64 0),(.int .i64 0),(.bool false),(.slice none 0 0),(.slice none 0 0),(.int .i64 0),(.int .i64 0),(.bool false),(.int .i64 0),(Value.string (ByteArray.mk #[])),(Value.string (ByteArray.mk #[])),(Value.string (ByteArray.mk #[])),(.int .i64 0),(.int .i64 0),(.bool false),(.slice none 0 0),(.slice none 0 0),.int .i64 x0,(.int .i64 0)]):=by kernel_rfl
theorem AGf (x0:ByteArray):AU Zt #[(0,1),(1,11)] [(0,.string x0)]=some (.agg #[.string x0,(.int .i64 0),(.int .i64 0),(.bool false),(.int .i64 0),(Value.string (ByteArray.mk #[])),(Value.string (ByteArray.mk #[])),(Value.string (ByteArray.mk #[])),(.int .i64 0),(.int .i64 0),(.bool false),(.slice none 0 0)]):=by kernel_rfl
theorem AGe:AU Zb Zo []=some (.agg Zb):=by kernel_rfl
theorem AGd (x0:Bool):AU Zc1 Zq [(3,.bool x0)]=some (.agg #[(Value.string (ByteArray.mk #[])),(Value.string (ByteArray.mk #[])),(.slice none 0 0),.bool x0]):=by kernel_rfl
theorem AGc (x0:Bool):AU Zh Zr [(0,.bool x0)]=some (.agg #[.bool x0,(Value.string (ByteArray.mk #[])),(.int .i64 0),(.int .i64 0),(.bool false),(.int .i64 0),(Value.string (ByteArray.mk #[])),(Value.string (ByteArray.mk #[])),(Value.string (ByteArray.mk #[])),(.int .i64 0),(.int .i64 0),(.bool false),(.slice none 0 0),(Value.string (ByteArray.mk #[]))]):=by kernel_rfl
theorem AGb (x0:Bool)(x1:ByteArray):AU Zh Zr [(0,.bool x0),(1,.string x1)]=some (.agg #[.bool x0,.string x1,(.int .i64 0),(.int .i64 0),(.bool false),(.int .i64 0),(Value.string (ByteArray.mk #[])),(Value.string (ByteArray.mk #[])),(Value.string (ByteArray.mk #[])),(.int .i64 0),(.int .i64 0),(.bool false),(.slice none 0 0),(Value.string (ByteArray.mk #[]))]):=by kernel_rfl
theorem AGa (x0:Int)(x1:Int)(x2:Bool)(x3:Int)(x4:ByteArray)(x5:ByteArray)(x6:ByteArray)(x7:Int)(x8:Int)(x9:Bool)(x10:Option Addr)(x11:Nat)(x12:Nat):AU Zh Zr [(2,.agg #[.int .i64 x0,.int .i64 x1,.bool x2,.int .i64 x3,.string x4,.string x5,.string x6,.int .i64 x7,.int .i64 x8,.bool x9,.slice x10 x11 x12])]=some (.agg #[(.bool false),(Value.string (ByteArray.mk #[])),.int .i64 x0,.int .i64 x1,.bool x2,.int .i64 x3,.string x4,.string x5,.string x6,.int .i64 x7,.int .i64 x8,.bool x9,.slice x10 x11 x12,(Value.string (ByteArray.mk #[]))]):=by kernel_rfl
theorem AGZ (x0:Int)(x1:Int)(x2:Bool)(x3:Int)(x4:ByteArray)(x5:ByteArray)(x6:ByteArray)(x7:Int)(x8:Int)(x9:Bool)(x10:Option Addr)(x11:Nat)(x12:Nat):AU Zu #[(0,11),(11,1)] [(0,.agg #[.int .i64 x0,.int .i64 x1,.bool x2,.int .i64 x3,.string x4,.string x5,.string x6,.int .i64 x7,.int .i64 x8,.bool x9,.slice x10 x11 x12])]=some (.agg #[.int .i64 x0,.int .i64 x1,.bool x2,.int .i64 x3,.string x4,.string x5,.string x6,.int .i64 x7,.int .i64 x8,.bool x9,.slice x10 x11 x12,(.bool false)]):=by kernel_rfl
theorem AGY (x0:ByteArray):AU Zl #[(0,1),(1,1),(2,1),(3,11)] [(0,.string x0)]=some (.agg #[.string x0,(Value.string (ByteArray.mk #[])),(.bool false),(.int .i64 0),(.int .i64 0),(.bool false),(.int .i64 0),(Value.string (ByteArray.mk #[])),(Value.string (ByteArray.mk #[])),(Value.string (ByteArray.mk #[])),(.int .i64 0),(.int .i64 0),(.bool false),(.slice none 0 0)]):=by kernel_rfl
theorem AGX (x0:Int)(x1:Option Addr)(x2:Nat)(x3:Nat):AU Zb Zo [(0,.int .i64 x0),(7,.slice x1 x2 x3)]=some (.agg #[.int .i64 x0,(.int .i64 0),(.bool false),(.int .i64 0),(Value.string (ByteArray.mk #[])),(Value.string (ByteArray.mk #[])),(Value.string (ByteArray.mk #[])),(.int .i64 0),(.int .i64 0),(.bool false),.slice x1 x2 x3]):=by kernel_rfl
theorem AGW (x0:ByteArray):AU Zx #[(0,1),(1,1),(2,1),(3,1),(4,1),(5,11)] [(0,.string x0)]=some (.agg #[.string x0,(.int .i64 0),(.bool false),(.bool false),(.bool false),(.int .i64 0),(.int .i64 0),(.bool false),(.int .i64 0),(Value.string (ByteArray.mk #[])),(Value.string (ByteArray.mk #[])),(Value.string (ByteArray.mk #[])),(.int .i64 0),(.int .i64 0),(.bool false),(.slice none 0 0)]):=by kernel_rfl
theorem AGV (x0:Int)(x1:ByteArray):AU Zs Zq [(0,.int .i64 x0),(3,.string x1)]=some (.agg #[.int .i64 x0,(.bool false),(.int .i64 0),.string x1]):=by kernel_rfl
theorem AGU (x0:Int)(x1:Int)(x2:Bool)(x3:Int)(x4:ByteArray):AU Zb Zo [(0,.int .i64 x0),(1,.agg #[.int .i64 x1,.bool x2,.int .i64 x3,.string x4])]=some (.agg #[.int .i64 x0,.int .i64 x1,.bool x2,.int .i64 x3,.string x4,(Value.string (ByteArray.mk #[])),(Value.string (ByteArray.mk #[])),(.int .i64 0),(.int .i64 0),(.bool false),(.slice none 0 0)]):=by kernel_rfl
theorem AGT (x0:Int)(x1:Int):AU Zs Zq [(0,.int .i64 x0),(2,.int .i64 x1)]=some (.agg #[.int .i64 x0,(.bool false),.int .i64 x1,(Value.string (ByteArray.mk #[]))]):=by kernel_rfl
theorem AGS (x0:Int):AU Zs Zq [(0,.int .i64 x0)]=some (.agg #[.int .i64 x0,(.bool false),(.int .i64 0),(Value.string (ByteArray.mk #[]))]):=by kernel_rfl
theorem AGR (x0:Int)(x1:Bool):AU Zs Zq [(0,.int .i64 x0),(1,.bool x1)]=some (.agg #[.int .i64 x0,.bool x1,(.int .i64 0),(Value.string (ByteArray.mk #[]))]):=by kernel_rfl
theorem AGQ (x0:Int)(x1:ByteArray)(x2:ByteArray):AU Zb Zo [(0,.int .i64 x0),(2,.string x1),(3,.string x2)]=some (.agg #[.int .i64 x0,(.int .i64 0),(.bool false),(.int .i64 0),(Value.string (ByteArray.mk #[])),.string x1,.string x2,(.int .i64 0),(.int .i64 0),(.bool false),(.slice none 0 0)]):=by kernel_rfl
theorem AGP (x0:Int)(x1:ByteArray):AU Zb Zo [(0,.int .i64 x0),(3,.string x1)]=some (.agg #[.int .i64 x0,(.int .i64 0),(.bool false),(.int .i64 0),(Value.string (ByteArray.mk #[])),(Value.string (ByteArray.mk #[])),.string x1,(.int .i64 0),(.int .i64 0),(.bool false),(.slice none 0 0)]):=by kernel_rfl
theorem AGO (x0:Int):AU Zb Zo [(0,.int .i64 x0)]=some (.agg #[.int .i64 x0,(.int .i64 0),(.bool false),(.int .i64 0),(Value.string (ByteArray.mk #[])),(Value.string (ByteArray.mk #[])),(Value.string (ByteArray.mk #[])),(.int .i64 0),(.int .i64 0),(.bool false),(.slice none 0 0)]):=by kernel_rfl
end Go.Proofs.YthkaekjoemhjaaaGreatDoor
namespace Go.SL
section
variable {I:Imm}{L:LH}{K:Value→M}
theorem BI {A B:M}(e:A=B)(h:B I L):A I L:=e ▸ h
theorem AQY {b b':Bool}(h:K (.bool b) I L)(e:b=b'):K (.bool b') I L:=e ▸ h
end
theorem Qh (A B:M):Gd (.bool true) true A B=A:=rfl
theorem Sr (A B:M):Gd (.bool false) true A B=B:=rfl
theorem ABM (A B:M):Gd (.bool true) false A B=B:=rfl
theorem ABN (A B:M):Gd (.bool false) false A B=A:=rfl
class LSub (L L':LH):Prop where
 sub:∀x∈L,x∈L'
instance (priority:=100) lsubRefl (L:LH):LSub L L:=⟨λ_ h=>h⟩
instance (priority:=110) lsubNil (L:LH):LSub [] L:=⟨λ_ h=>by cases h⟩
instance (priority:=90) lsubCons (L L':LH)(y:Nat×Obj)[h:LSub L L']:LSub L (y::L'):=⟨λx hx=>zV _ (h.sub x hx)⟩
instance (priority:=90) lsubApp (L A L':LH)[h:LSub L L']:LSub L (A++L'):=⟨λx hx=>zaT _ (h.sub x hx)⟩
instance (priority:=80) lsubAppL (L A L':LH)[h:LSub L A]:LSub L (A++L'):=⟨λx hx=>zY _ (h.sub x hx)⟩
section readsC
variable {I I0 I1:Imm}{L L0 X:LH}{K:Value→M}{b off n:Nat}{v:Value}
theorem Cells.mono {vs:List Value}(h:Cells I0 L0 b off vs)(hI:Ext I0 I)(hL:∀x∈L0,x∈L):Cells I L b off vs:=λj u hu=>(h j u hu).mono hI hL
theorem rdC [hl:LSub L0 L](hc:Cell I0 L0 b off v)(hI:Ext I0 I)(hk:K v I L):Rv none (BF (.pointer (some ⟨b,off,none⟩))) K I L:=rd1 (hc.mono hI hl.sub) hk
theorem UH [hl:LSub L0 L]{vs:List Value}(hc:Cells I0 L0 b off vs)(hI:Ext I0 I)(hn:vs.length=n)(hk:K (.agg vs.toArray) I L):Rv none (AB n (.pointer (some ⟨b,off,none⟩))) K I L:=rdN hn (hc.mono hI hl.sub) hk
theorem BK [hl:LSub X L](hI:Ext I0 I)(hk:K v I L):AQ (Stay I0 X) K v I L:=ALH hI hl.sub hk
theorem keepA [hl:LSub X L](hk:K v I L)(hI:Ext I0 I:=by repeat (first|exact zAC _|assumption|refine zAB ?_ zA)):AQ (Stay I0 X) K v I L:=BK hI hk
theorem Ci {B:M→M}(h:B (Stay I L) I L):Bg B I L:=draw _ (Stay.start I L) h
end readsC
def QE {α:Type}[Inhabited α](l:List α)(i:Int):α:=l.getD i.toNat default
theorem BA {α:Type}[Inhabited α]{l:List α}{k:Nat}(h:k < l.length):QE l (k:Int)=l[k]:=by
 simp [QE,List.getD,h]
theorem ACN {α:Type}[Inhabited α]{l:List α}{i:Int}(h0:0≤i)(h1:i < l.length):l[i.toNat]? =some (QE l i):=by
 have:i.toNat < l.length:=by omega
 simp [QE,List.getD,this]
theorem AAr (b off n:Nat)(k:IntKind)(len cap:Nat)(i:Int)(h0:0≤i)(h1:i < len):ixV n (.slice (some ⟨b,off,none⟩) len cap) (.int k i)=some (.pointer (some ⟨b,off+i.toNat * n,none⟩)):=by
 simp only [ixV];rw [if_pos ⟨h0,h1⟩]
theorem News.ix {I:Imm}{L:LH}{n m:Nat}{a:Option Addr}{cap:Nat}{cells:List Value}(h:News n (.slice a m cap) I L m cells)(k:IntKind){i:Int}(h0:0≤i)(h1:i < m):
  ∃b off,ixV n (.slice a m cap) (.int k i)=some (.pointer (some ⟨b,off,none⟩))∧∀I' L',Ext I I'→(∀x∈L,x∈L')→Cells I' L' b off ((cells.drop (i.toNat * n)).take n):=by
 rcases h with ⟨a',cap',h2,h3,_⟩|⟨b,off,cap',h2,hl,hc⟩|⟨s,h2,_⟩
 ·omega
 ·simp only [Value.slice.injEq] at h2;obtain ⟨rfl,_,rfl⟩:=h2;refine ⟨b,off+i.toNat * n,AAr b off n k m cap i h0 h1,λI' L' hI hL j u hu=>?_⟩;rw [zaB] at hu;split at hu
  ·rw [zat] at hu;have:=(hc _ u hu).mono hI hL;rwa [←zbn] at this
  ·cases hu
 ·cases h2
def RL {α:Type}(R:Imm→α→List Value→Prop)(n:Nat)(I:Imm)(L:LH)(v:Value)(xs:List α):Prop:=
 ∃a cap cells,v= .slice a xs.length cap∧xs.length≤cap∧News n v I L xs.length cells∧Recs (R I) n xs cells
section rl
variable {α:Type}{R:Imm→α→List Value→Prop}{n:Nat}{I I':Imm}{L L':LH}{v:Value}{xs:List α}
theorem RL.len (h:RL R n I L v xs):lenV v=some (.int .i64 xs.length):=by
 obtain ⟨a,cap,cells,rfl,_⟩:=h;rfl
theorem zAK:type_of% @RL.len:=@RL.len
theorem RL.form (h:RL R n I L v xs):∃a cap,v= .slice a xs.length cap:=by
 obtain ⟨a,cap,cells,rfl,_⟩:=h;exact ⟨a,cap,rfl⟩
theorem zAF:type_of% @RL.form:=@RL.form
theorem News.mono {m:Nat}{news:List Value}(h:News n v I L m news)(hI:Ext I I')(hL:∀x∈L,x∈L'):News n v I' L' m news:=by
 rcases h with h|⟨b,off,cap,h1,h2,h3⟩|h
 ·exact .inl h
 ·exact .inr (.inl ⟨b,off,cap,h1,h2,λj u hu=>(h3 j u hu).mono hI hL⟩)
 ·exact .inr (.inr h)
theorem RL.mono (hR:∀x c,R I x c→R I' x c)(h:RL R n I L v xs)(hI:Ext I I')(hL:∀x∈L,x∈L'):RL R n I' L' v xs:=by
 obtain ⟨a,cap,cells,hv,hc,hn,hr⟩:=h;exact ⟨a,cap,cells,hv,hc,hn.mono hI hL,hr.imp hR⟩
theorem zAI:type_of% @RL.mono:=@RL.mono
theorem RL.ofI {cells:List Value}(h:SlI I n v cells xs.length)(hr:Recs (R I) n xs cells):RL R n I L v xs:=by
 have hn:=SlI.news (L:=L) h;obtain ⟨_,a,cap,hv,hle,_⟩:=h;exact ⟨a,cap,cells,hv,hle,hn,hr⟩
theorem RL.nil (a:Option Addr)(cap:Nat):RL R n I L (.slice a 0 cap) []:=⟨a,cap,[],rfl,zao _,.inl ⟨a,cap,rfl,rfl,rfl⟩,rfl⟩
theorem zAD:type_of% @RL.nil:=@RL.nil
theorem RL.ix [Inhabited α](h:RL R n I L v xs){i:Int}(h0:0≤i)(h1:i < xs.length):
  ∃b off c,ixV n v (.int .i64 i)=some (.pointer (some ⟨b,off,none⟩))∧c.length=n∧R I (QE xs i) c∧∀I' L',Ext I I'→(∀x∈L,x∈L')→Cells I' L' b off c:=by
 obtain ⟨a,cap,cells,rfl,_,hn,hr⟩:=h;obtain ⟨b,off,hix,hc⟩:=News.ix hn .i64 h0 h1;obtain ⟨g1,g2⟩:=hr.get (ACN h0 h1);exact ⟨b,off,_,hix,g1,g2,hc⟩
theorem RL.part (h:RL R n I L v xs){lo hi:Nat}(h1:lo≤hi)(h2:hi≤xs.length)(blo bhi:Option Value)(hlo:DJ blo 0 hi=some lo)(hhi:∀cap,xs.length≤cap→DJ bhi xs.length cap=some hi):
  ∃v',Bi n v blo bhi none=some v'∧RL R n I L v' ((xs.drop lo).take (hi - lo)):=by
 obtain ⟨a,cap,cells,rfl,hcap,hn,hr⟩:=h;have hb1:=hhi cap hcap;have hlen:((xs.drop lo).take (hi - lo)).length=hi - lo:=by rw [zai,zaq];omega
 refine ⟨.slice (if cap=lo then a else a.map (·.add (lo * n))) (hi - lo) (cap - lo),?_,_,cap - lo,(cells.drop (lo * n)).take ((hi - lo) * n),by rw [hlen],by rw [hlen];omega,?_,?_⟩
 ·simp only [Bi];rw [if_neg zy];simp only [DJ] at hb1 hlo ⊢;simp [hb1,hlo]
 ·rw [hlen];by_cases h0:hi - lo=0
  ·rw [h0];exact .inl ⟨_,_,rfl,rfl,by simp⟩
  ·rcases hn with ⟨a',cap',e1,e2,_⟩|⟨b,off,cap',e1,hl,hc⟩|⟨s,e1,_⟩
   ·omega
   ·simp only [Value.slice.injEq] at e1;obtain ⟨rfl,_,rfl⟩:=e1;refine .inr (.inl ⟨b,off+lo * n,cap - lo,by rw [if_neg zo];simp [Ce],?_,λj u hu=>?_⟩)
    ·rw [zai,zaq,hl];apply zbb
     rw [←Nat.sub_mul];exact zay n zo
    ·rw [zaB] at hu;split at hu
     ·rw [zat] at hu;have:=hc _ u hu;rwa [←zbn] at this
     ·cases hu
   ·cases e1
 ·exact (hr.drop lo).take (hi - lo)
theorem RL.clip (h:RL R n I L v xs){j:Nat}(hj:j≤xs.length):∃a',Bi n v none (some (.int .i64 j)) (some (.int .i64 j))=some (.slice a' j j)∧RL R n I L (.slice a' j j) (xs.take j):=by
 obtain ⟨a,cap,cells,rfl,hcap,hn,hr⟩:=h;have hlen:(xs.take j).length=j:=by rw [zai];omega
 refine ⟨if j=0 then a else a.map (·.add (0 * n)),?_,_,j,cells.take (j * n),by rw [hlen],by rw [hlen];exact zh _,?_,hr.take j⟩
 ·simp only [Bi,Option.isNone_some,Bool.false_and,zl,if_false];rw [KN _ _ _ _ zo,zbv,KN _ _ _ _ (zh _),zbv,show DJ none 0 j=some 0 from rfl,zbv];simp
 ·rw [hlen];by_cases h0:j=0
  ·subst h0;exact .inl ⟨_,_,rfl,rfl,by simp⟩
  ·rcases hn with ⟨a',cap',e1,e2,_⟩|⟨b,off,cap',e1,hl,hc⟩|⟨s,e1,_⟩
   ·omega
   ·simp only [Value.slice.injEq] at e1;obtain ⟨rfl,_,rfl⟩:=e1;refine .inr (.inl ⟨b,off,j,by rw [if_neg h0];simp [Ce],?_,λi u hu=>?_⟩)
    ·rw [zai,hl];exact zbb (zay n hj)
    ·rw [zaB] at hu;split at hu
     ·exact hc _ u hu
     ·cases hu
   ·cases e1
end rl
def GrO (I:Imm)(T n:Nat)(X:LH)(v:Value)(cells:List Value)(len:Nat):Prop:=
 SlO T n X v cells len∨(X=[]∧(∃a,v= .slice a len len)∧SlI I n v cells len)
theorem GrO.mono {I I':Imm}{T n:Nat}{X:LH}{v:Value}{cells:List Value}{len:Nat}(h:GrO I T n X v cells len)(hI:Ext I I'):GrO I' T n X v cells len:=by
 rcases h with h|⟨h1,h2,h3⟩
 ·exact .inl h
 ·exact .inr ⟨h1,h2,h3.mono hI⟩
theorem GrO.news {I:Imm}{T n len:Nat}{X F:LH}{v:Value}{cells:List Value}(h:GrO I T n X v cells len)(hF:∀x∈X,x∈F):News n v I F len cells:=by
 rcases h with h|⟨h1,h2,h3⟩
 ·exact h.news hF
 ·exact SlI.news h3
theorem GrO.form {I:Imm}{T n len:Nat}{X:LH}{v:Value}{cells:List Value}(h:GrO I T n X v cells len):∃a cap,v= .slice a len cap∧len≤cap:=by
 rcases h with h|⟨h1,⟨a,h2⟩,h3⟩
 ·obtain ⟨_,h⟩:=h;rcases h with ⟨_,rfl,a,rfl⟩|⟨b,cap,cs,_,rfl,_,hle,_⟩
  ·exact ⟨a,0,rfl,zh _⟩
  ·exact ⟨_,cap,rfl,hle⟩
 ·exact ⟨a,len,h2,zh _⟩
theorem AHP {I:Imm}{L F:LH}(hp:L.Perm F){T n bytes len m:Nat}{z:Array Value}{s x:Value}{a:Option Addr}{olds news:List Value}{K:Value→M}(hz:z.size=n)(hs:s= .slice a len len)(ho:News n s I L len olds)(hn:News n x I L m news)
  (h1:∀u∈news,u.oneCell'=true) (hm:0 < m) (hb:(len+m) * bytes≤150000000000000) (hm':len+m≤150000000000000) (hk:∀X' v',SlO T n X' v' (olds++news) (len+m)→K v' I (X'++F)):App T n bytes z s x (gh K) I L:=by
 have hol:=ho.length;have hnl:=hn.length;have hlen:(olds++news).length=(len+m) * n:=by rw [zk,hol,hnl,zax]
 refine ⟨a,len,len,m,news,hs,hn,h1,.inr (.inr ⟨by omega,hb,hm',olds,L,ho,List.Sublist.refl _,λb c hc=>?_⟩)⟩;refine Gh.perm (List.Perm.cons _ hp) (zAA (hk [(b,_)] _ ⟨hlen,.inr ⟨b,c,_,rfl,rfl,?_,hc,?_⟩⟩))
 ·simp only [Array.size_append,List.size_toArray,EQ,hz,hlen];rw [←zax];congr 1;omega
 ·intro j u hu;have hlt:j < (olds++news).length:=(zaj.1 hu).1;rw [zaO (by simpa using hlt)];simpa using hu
theorem APC {I:Imm}{X L F:LH}[hsp:SplitL X L F]{T n bytes len m:Nat}{z:Array Value}{s x:Value}{cells news:List Value}{K:Value→M}(hz:z.size=n)(ho:GrO I T n X s cells len)(hn:News n x I L m news)
  (h1:∀u∈news,u.oneCell'=true) (hb:(len+m) * bytes≤150000000000000) (hm:len+m≤150000000000000)
  (hk:∀X' v',GrO I T n X' v' (cells++news) (len+m)→K v' I (X'++F)):App T n bytes z s x (gh K) I L:=by
 rcases ho with ho|⟨rfl,⟨a,ha⟩,h3⟩
 ·exact BL hz ho hn h1 hb hm (λX' v' h=>hk X' v' (.inl h))
 ·have hp:=hsp.perm;by_cases h0:m=0
  ·subst h0;have hnil:news=[]:=zG (by simpa using hn.length);subst hnil;refine ⟨a,len,len,0,[],ha,hn,h1,.inl ⟨zh _,rfl,Gh.perm hp (zAA ?_)⟩⟩;have:=hk [] s (.inr ⟨rfl,⟨a,ha⟩,by simpa using h3⟩);rw [ha] at this;exact this
  ·exact AHP hp hz ha (SlI.news h3 (L:=L)) hn h1 zo hb hm (λX' v' h=>hk X' v' (.inl h))
theorem AAX {I:Imm}{X L F:LH}[hsp:SplitL X L F]{T len:Nat}{v u:Value}{cells:List Value}{K:Value→M}{i:Int}(ho:SlO T 1 X v cells len)(h0:0≤i)(h1:i < len)(hu:u.oneCell'=true)
  (hk:∀X',SlO T 1 X' v (cells.set i.toNat u) len→K undef I (X'++F)):
  ∃b,ixV 1 v (.int .i64 i)=some (.pointer (some ⟨b,i.toNat,none⟩))∧Sto 1 (.pointer (some ⟨b,i.toNat,none⟩)) u (gh K) I L:=by
 have hp:=hsp.perm;obtain ⟨hl,ho'⟩:=ho;rcases ho' with ⟨rfl,rfl,a,rfl⟩|⟨b,cap,cs,rfl,rfl,hcs,hle,hc⟩
 ·omega
 ·refine ⟨b,by rw [AAr b 0 1 .i64 len cap i h0 h1,zaS,Nat.mul_one],?_⟩;have hmem:(b,Obj.cells cs T (0,0))∈L:=hp.mem_iff.2 (zY _ (zM.2 rfl));obtain ⟨L1,L2,rfl⟩:=List.append_of_mem hmem;have hF:(L1++L2).Perm F:=by
   have h2:(L1++(b,Obj.cells cs T (0,0))::L2).Perm ((b,Obj.cells cs T (0,0))::(L1++L2)):=zbd;exact (List.perm_cons _).1 (h2.symm.trans hp)
  have huc:u.cells=#[u]:=by cases u <;> first|rfl|simp [Value.oneCell'] at hu
  refine ⟨b,i.toNat,cs,T,(0,0),L1,L2,rfl,by simp [huc],by simp [huc];exact hu,by omega,.inl rfl,rfl,?_⟩;refine Gh.perm (zbd.trans (List.Perm.cons _ hF)) (zAA (hk [(b,_)] ⟨by simp [hl],.inr ⟨b,cap,_,rfl,rfl,by rw [Nu];exact hcs,hle,?_⟩⟩));intro j w hw;simp only [huc,wr];rw [List.getElem?_set] at hw;split at hw
  ·rename_i e
   subst e;split at hw
   ·cases hw
    rw [Array.getElem?_setIfInBounds_self_of_lt zo]
   ·cases hw
  ·rename_i e
   rw [zaI e];exact hc j w hw
def str (l:List UInt8):Value:=.string ⟨l.toArray⟩
def StrV (_:Imm)(x:List UInt8)(c:List Value):Prop:=c=[.string ⟨x.toArray⟩]
def ASM (I:Imm)(x:List UInt8)(c:List Value):Prop:=∃v,c=[v]∧Bytes I v x
def ASJ (k:IntKind)(_:Imm)(x:Int)(c:List Value):Prop:=c=[.int k x]
def Lu {α:Type}(R:Imm→α→List Value→Prop)(n:Nat)(I:Imm)(xs:List α)(c:List Value):Prop:=∃v,c=[v]∧RL R n I [] v xs
theorem StrV.mono {I I':Imm}{x:List UInt8}{c:List Value}(h:StrV I x c)(hI:Ext I I'):StrV I' x c:=h
theorem Bytes.len {I:Imm}{v:Value}{l:List UInt8}(h:Bytes I v l):lenV v=some (.int .i64 l.length):=by
 obtain ⟨_,a,c,rfl,_⟩:=h;rfl
section
variable {rz:Nat}{P:Program}{W:World}{T:TypeId}
end
abbrev blt:List UInt8→List UInt8→Bool:=Op.bytesLess
theorem Gn (a:List UInt8):(⟨a.toArray⟩:ByteArray).toList=a:=by simp [Go.ByteArray.toList_mk]
theorem OX (a:List UInt8):(⟨a.toArray⟩:ByteArray).size=a.length:=by simp [ByteArray.size]
section
variable (a b:List UInt8)
theorem sEq:BB .eql (.string ⟨a.toArray⟩) (.string ⟨b.toArray⟩)=some (.bool (a==b)):=by simp only [BB,Gn]
theorem sNe:BB .neq (.string ⟨a.toArray⟩) (.string ⟨b.toArray⟩)=some (.bool (!(a==b))):=by simp only [BB,Gn]
theorem sLt:BB .lss (.string ⟨a.toArray⟩) (.string ⟨b.toArray⟩)=some (.bool (blt a b)):=by simp only [BB,Gn]
theorem sLe:BB .leq (.string ⟨a.toArray⟩) (.string ⟨b.toArray⟩)=some (.bool (blt a b||a==b)):=by simp only [BB,Gn]
theorem sGt:BB .gtr (.string ⟨a.toArray⟩) (.string ⟨b.toArray⟩)=some (.bool (!(blt a b||a==b))):=by simp only [BB,Gn]
theorem sGe:BB .geq (.string ⟨a.toArray⟩) (.string ⟨b.toArray⟩)=some (.bool (!(blt a b))):=by simp only [BB,Gn]
theorem AHm (h:a.length+b.length≤9223372036854775807):BB .add (.string ⟨a.toArray⟩) (.string ⟨b.toArray⟩)=some (.string ⟨(a++b).toArray⟩):=by
 simp only [BB,OX];rw [if_pos h];have:(⟨a.toArray⟩:ByteArray)++⟨b.toArray⟩=⟨(a++b).toArray⟩:=by
  apply ByteArray.ext
  simp
 rw [this]
theorem AQQ:BP (.string ⟨a.toArray⟩)=some (.int .i64 a.length):=by rw [AIS,OX]
end
theorem Ym (a b c d:Int):Gm .eql [(TypeDesc.int .i64,0),(TypeDesc.int .i64,1)] (.agg #[.int .i64 a,.int .i64 b]) (.agg #[.int .i64 c,.int .i64 d])=some (.bool ((a==c)&&(b==d))):=by
 simp [Gm,Jm,eqD]
theorem Yl (a b c d:Int):Gm .neq [(TypeDesc.int .i64,0),(TypeDesc.int .i64,1)] (.agg #[.int .i64 a,.int .i64 b]) (.agg #[.int .i64 c,.int .i64 d])=some (.bool !((a==c)&&(b==d))):=by
 simp [Gm,Jm,eqD]
theorem WA (off n:Nat)(l:List Value):FK true off n (.agg l.toArray)=some (.agg ((l.drop off).take n).toArray):=by
 simp only [FK,if_true];congr 2
 apply Array.ext'
 simp [List.take_drop,Nat.add_comm]
theorem Vz (off n:Nat)(l:List Value):FK false off n (.agg l.toArray)=l[off]? :=by
 simp [FK]
def cmpL (a b:List UInt8):Int:=match (List.range (min a.length b.length)).find? λi=>a.getD i 0 != b.getD i 0 with
 |some i=>if a.getD i 0 < b.getD i 0 then -1 else 1
 |none=>if a.length < b.length then -1 else if a.length > b.length then 1 else 0
theorem ASH (a:List UInt8)(i:Nat):(⟨a.toArray⟩:ByteArray)[i]! =a.getD i 0:=by
 by_cases h:i < a.length
 ·have hs:i < (⟨a.toArray⟩:ByteArray).size:=by rw [OX];exact h
  rw [getElem!_pos (⟨a.toArray⟩:ByteArray) i hs];show a.toArray[i]'(by simpa using h)=_;simp [List.getD,h]
 ·have hs:¬i < (⟨a.toArray⟩:ByteArray).size:=by rw [OX];exact h
  rw [getElem!_neg (⟨a.toArray⟩:ByteArray) i hs];simp [List.getD,List.getElem?_eq_none (Nat.le_of_not_lt h)];rfl
section
variable {P:Program}{ω:Om}{I:Imm}{L:LH}{K:Value→M}
theorem ACC {w:World}{b off:Nat}{v:Value}(hs:St ω w I L)(hc:Cell I L b off v):(load ⟨b,off,none⟩).run P w= .ok v w:=by
 have:=hc.cell hs;simp [this]
theorem Jj {w:World}(hs:St ω w I L):∀(l:List UInt8) (b off:Nat) (acc:ByteArray),Cells I L b off (u8s l)→(Extern.Bytes.loadBytes ⟨b,off,none⟩ l.length acc).run P w= .ok ⟨acc.data++l.toArray⟩ w
 |[],b,off,acc,_=>by
  have:(⟨acc.data++([]:List UInt8).toArray⟩:ByteArray)=acc:=by cases acc;simp
  rw [this];simp [Extern.Bytes.loadBytes]
 |x::l,b,off,acc,hc=>by
  have h0:Cell I L b off (.int .u8 x.toNat):=by simpa using hc 0 _ rfl
  have h1:Cells I L b (off+1) (u8s l):=λj u hu=>by
   have:=hc (j+1) u (by simpa [u8s] using hu);rwa [show off+(j+1)=off+1+j from by omega] at this
  simp only [zi,Extern.Bytes.loadBytes,Sem.run_bind,ACC (P:=P) hs h0,Result.andThen_ok];have e:(Addr.add ⟨b,off,none⟩ 1)=⟨b,off+1,none⟩:=Ce _ _ _;rw [e,Jj hs l b (off+1) _ h1];congr 1
  have:((x.toNat:Int).toNat.toUInt8)=x:=by simp
  rw [this];cases acc
  simp [ByteArray.push]
theorem WT {w:World}{v:Value}{l:List UInt8}(hs:St ω w I L)(h:Bytes I v l):(Extern.Bytes.bytesOf v).run P w= .ok ⟨l.toArray⟩ w:=by
 obtain ⟨hl,a,cap,rfl,_,h⟩:=h;cases a with
 |none=>
  have h0:l.length=0:=by
   apply Classical.byContradiction
   intro h0;obtain ⟨b,off,cs,T,fr,e,_⟩:=h h0;cases e
  have:l=[]:=zG h0;subst this;simp only [Extern.Bytes.bytesOf,Sem.run_pure];rfl
 |some a=>
  simp only [Extern.Bytes.bytesOf];by_cases h0:l.length=0
  ·have:l=[]:=zG h0;subst this;simp only [zH,Extern.Bytes.loadBytes,Sem.run_pure];rfl
  ·obtain ⟨b,off,cs,T,fr,e,hb,hcs⟩:=h h0;simp only [zn] at e;subst e;rw [Jj hs l b off .empty (λj u hu=>Cell.imm hb (hcs j u hu))];congr 1
   simp [ByteArray.empty,ByteArray.emptyWithCapacity];rfl
end
section
variable {I I0:Imm}{L L' X:LH}{K:Value→M}{b off n T:Nat}
theorem AMD {l:List Value}{T:Nat}{fr:Nat×Nat}[h:InL b X (.cells l.toArray T fr)](vs:List Value)(he:(l.drop off).take n=vs)(hl:vs.length=n)(hk:K (.agg vs.toArray) I L):Rv (some (Stay I0 X)) (AB n (.pointer (some ⟨b,off,none⟩))) K I L:=
 ABr hl (λI' L' hS j u hu=>Cell.own (hS.2 _ h.mem) (by
  subst he;rw [zaB] at hu;split at hu
  ·rw [zat] at hu;simpa using hu
  ·cases hu)) hk
theorem stP {l vs:List Value}(l':List Value)[h:InL b L (.cells l.toArray T (0,0))](he:l.take off++(vs++l.drop (off+n))=l')(hl:vs.length=n)(hleb:Nat.ble (off+n) l.length=true)(h1:vs.all (·.oneCell')=true)[u:UpL b L (.cells l.toArray T (0,0)) (.cells l'.toArray T (0,0)) L'](hk:K undef I L'):
  Sto n (.pointer (some ⟨b,off,none⟩)) (.agg vs.toArray) (gh K) I L:=by
 have hle:=Nat.le_of_ble_eq_true hleb;obtain ⟨L1,L2,rfl,rfl⟩:=u.up;refine ⟨b,off,l.toArray,T,(0,0),L1,L2,rfl,by simp [Value.cells,hl],by simpa [Value.cells] using AV h1,by simpa using hle,.inl rfl,rfl,?_⟩;simp only [Value.cells];rw [Oa vs l.toArray off zu];subst he;refine zAA ?_;rw [hl];simpa using hk
theorem ARk {v:Value}{l:List UInt8}{I0:Imm}(h:Bytes I0 v l)(hI:Ext I0 I)(hk:K (.string ⟨l.toArray⟩) I L):Rv none (bsR v) K I L:=⟨_,Bytes.str (h.mono hI),hk⟩
theorem APA {v:Value}{l:List UInt8}{I1:Imm}{X:LH}(h:Bytes I0 v l)(hI:Ext I0 I1)(hk:K (.string ⟨l.toArray⟩) I L):Rv (some (Stay I1 X)) (bsR v) K I L:=
 ⟨_,λI' L' hS=>Bytes.str (h.mono (hI.trans hS.1)),hk⟩
theorem ABD {P:Program}{ω:Om}{f:FuncId}{args:Array Value}(h:Gh (Cal P ω f args K) I L):Cal P ω f args K I L:=λw hs=>by
 obtain ⟨I',L',h1,h2⟩:=h hs.cons;exact h2 w (h1 ω w hs)
end
class MemB (x:Nat×Obj) (L:LH):Prop where
 mem:x∈L
instance memBRight (x:Nat×Obj)(A L:LH)[h:MemB x L]:MemB x (A++L):=⟨zaT _ h.mem⟩
instance memBThere (x y:Nat×Obj)(L:LH)[h:MemB x L]:MemB x (y::L):=⟨zV _ h.mem⟩
instance memBHere (x:Nat×Obj)(L:LH):MemB x (x::L):=⟨zJ ..⟩
instance (priority:=70) lsubConsL (x:Nat×Obj)(X L:LH)[h:MemB x L][h':LSub X L]:LSub (x::X) L:=⟨λy hy=>by
 rcases zK.1 hy with rfl|hy
 ·exact h.mem
 ·exact h'.sub y hy⟩
class DelB (b:Nat) (L:LH) (L':outParam LH):Prop where
 sub:∀x∈L',x∈L
instance delBThere (b:Nat)(x:Nat×Obj)(L L':LH)[h:DelB b L L']:DelB b (x::L) (x::L'):=⟨λy hy=>by
 rcases zK.1 hy with rfl|hy
 ·exact zJ ..
 ·exact zV _ (h.sub y hy)⟩
instance delBHere (b:Nat)(o:Obj)(L:LH):DelB b ((b,o)::L) L:=⟨λy hy=>zV _ hy⟩
theorem UZ {I:Imm}{L X:LH}{B:M→M}{b off:Nat}[h:DelB b L X](hB:B (Stay I X) I L):Qi [.pointer (some ⟨b,off,none⟩)] B I L:=draw _ ⟨zAC I,h.sub⟩ hB
theorem AMe {I:Imm}{L X Y:LH}{B:M→M}{b off c off':Nat}[h:DelB b L X][h':DelB c X Y](hB:B (Stay I Y) I L):Qi [.pointer (some ⟨b,off,none⟩),.pointer (some ⟨c,off',none⟩)] B I L:=draw _ ⟨zAC I,λx hx=>h.sub x (h'.sub x hx)⟩ hB
class PickB (b:Nat) (L:LH) (o:outParam Obj) (R:outParam LH):Prop where
 perm:L.Perm ((b,o)::R)
instance pickBRight (b:Nat)(o:Obj)(A L R:LH)[h:PickB b L o R]:PickB b (A++L) o (A++R):=⟨(zbl A h.perm).trans zbd⟩
instance pickBThere (b:Nat)(o:Obj)(y:Nat×Obj)(L R:LH)[h:PickB b L o R]:PickB b (y::L) o (y::R):=⟨(List.Perm.cons y h.perm).trans (List.Perm.swap ..)⟩
instance pickBHere (b:Nat)(o:Obj)(R:LH):PickB b ((b,o)::R) o R:=⟨List.Perm.refl _⟩
theorem RL.hd {α:Type}[Inhabited α]{R:Imm→α→List Value→Prop}{I:Imm}{L:LH}{n:Nat}{v:Value}{xs:List α}(h:RL R n I L v xs)(h0:xs≠[]):
  ∃b off c,ixV n v (.int .i64 0)=some (.pointer (some ⟨b,off,none⟩))∧c.length=n∧R I (QE xs 0) c∧∀I' L',Ext I I'→(∀x∈L,x∈L')→Cells I' L' b off c:=
 RL.ix h zo (by have:=List.length_pos_iff.2 h0;omega)
section
variable {α:Type}{R:Imm→α→List Value→Prop}{I:Imm}{T n bytes:Nat}{z:Array Value}{X6 L0 F:LH}{v:Value}{xs:List α}{x:α}{c cells:List Value}{K:Value→M}
theorem GX [SplitL X6 L0 F](hz:z.size=n)(hn:0 < n)(h6:SlO T n X6 v cells xs.length)(hR:Recs (R I) n xs cells)(hx:R I x c)(hcl:c.length=n)(h1:∀u∈c,u.oneCell'=true)(hb:(xs.length+1) * bytes≤150000000000000)(hl:xs.length+1≤150000000000000)
  (hk:∀X1 X6' v' cells',SlO T n X6' v' cells' (xs++[x]).length→Recs (R I) n (xs++[x]) cells'→K v' I (X6'++(X1++F))):
  AC T n z 1 [(0,.agg c.toArray)] (gh λu=>App T n bytes z v u (gh K)) I L0:=by
 refine Bh hz hn (by simpa [Value.cells] using hcl) (λX1 u hX1=>?_);refine BL (X:=X6) hz h6 (hX1.news (λx hx=>zY _ hx)) (λu hu=>h1 u (by simpa [Value.cells] using hu)) hb hl (λX' v' hX'=>?_);exact hk X1 X' v' _ (by simpa [Value.cells] using hX') (zAN hR (Recs.one (by simpa [Value.cells] using hcl) (by simpa [Value.cells] using hx)))
theorem AEw {I0:Imm}{Y:LH}[SplitL X6 L0 F](hI0:Ext I0 I)(hY:∀y∈Y,y∈L0)(hz:z.size=n)(hn:0 < n)(h6:SlO T n X6 v cells xs.length)(hR:Recs (R I) n xs cells)(hx:R I x c)(hcl:c.length=n)(h1:∀u∈c,u.oneCell'=true)(hb:(xs.length+1) * bytes≤150000000000000)(hl:xs.length+1≤150000000000000)
  (hk:∀X1 X6' a' c' cells',SlO T n X6' (.slice a' (xs++[x]).length c') cells' (xs++[x]).length→Recs (R I) n (xs++[x]) cells'→K (.slice a' (xs++[x]).length c') I (X6'++(X1++F))):
  AC T n z 1 [(0,.agg c.toArray)] (gh (AQ (Stay I0 Y) λu=>App T n bytes z v u (gh K))) I L0:=by
 refine Bh hz hn (by simpa [Value.cells] using hcl) (λX1 u hX1=>?_);refine ALH hI0 (λy hy=>zaT _ (hY y hy)) ?_;refine BL (X:=X6) hz h6 (hX1.news (λx hx=>zY _ hx)) (λu hu=>h1 u (by simpa [Value.cells] using hu)) hb hl (λX' v' hX'=>?_);obtain ⟨a',c',rfl⟩:=hX'.form;have e:xs.length+1=(xs++[x]).length:=by simp
 rw [e] at hX' ⊢;exact hk X1 X' a' c' _ (by simpa [Value.cells] using hX') (zAN hR (Recs.one (by simpa [Value.cells] using hcl) (by simpa [Value.cells] using hx)))
theorem VU [SplitL X6 L0 F]{w:Value}(hz:z.size=1)(h6:SlO T 1 X6 v cells xs.length)(hR:Recs (R I) 1 xs cells)(hx:R I x [w])(h1:w.oneCell'=true)(hb:(xs.length+1) * bytes≤150000000000000)(hl:xs.length+1≤150000000000000)
  (hk:∀X1 X6' v' cells',SlO T 1 X6' v' cells' (xs++[x]).length→Recs (R I) 1 (xs++[x]) cells'→K v' I (X6'++(X1++F))):
  AC T 1 z 1 [(0,w)] (gh λu=>App T 1 bytes z v u (gh K)) I L0:=by
 have hc:w.cells=#[w]:=by cases w <;> first|rfl|simp [Value.oneCell'] at h1
 refine Bh hz zo (by rw [hc];rfl) (λX1 u hX1=>?_);rw [hc] at hX1;refine BL (X:=X6) hz h6 (hX1.news (λx hx=>zY _ hx)) (by simpa using h1) hb hl (λX' v' hX'=>?_);exact hk X1 X' v' _ (by simpa using hX') (zAN hR (Recs.one rfl hx))
theorem AIE (hz:z.size=n)(hn:0 < n)(hx:R I x c)(hm:∀{I I':Imm} {x:α} {c:List Value},R I x c→Ext I I'→R I' x c)(hcl:c.length=n)(hk:∀u I',Ext I I'→RL R n I' [] u [x]→K u I' F):AC T n z 1 [(0,.agg c.toArray)] (gh K) I F:=by
 refine Qd hz hn (by simpa [Value.cells] using hcl) (λX u hX=>?_);refine SlO.freeze hX (λI' hI hS=>zAA (hk _ I' hI ?_));exact RL.ofI hS (by simpa [Value.cells] using Recs.one hcl (hm hx hI))
theorem RL.ofO {A:M}{X F:LH}(hm:∀{I I':Imm} {x:α} {c:List Value},R I x c→Ext I I'→R I' x c)(h:SlO T n X v cells xs.length)(hR:Recs (R I) n xs cells)(hk:∀I',Ext I I'→RL R n I' [] v xs→Gh A I' F):Gh A I (X++F):=
 SlO.freeze h (λI' hI hS=>hk I' hI (RL.ofI hS (hR.imp λ_ _ h=>hm h hI)))
end
end Go.SL
namespace Go.Proofs.YthkaekjoemhjaaaGreatDoor
open Go.SL
theorem ALb (k:Nat)(p:Value)(K:Value→M):Lf k p K=Pv (Ae k p) λa=>Rn (BF a) K:=rfl
theorem ALa (S:M)(k:Nat)(p:Value)(K:Value→M):Lg S k p K=Pv (Ae k p) λa=>Rs S (BF a) K:=rfl
theorem SSd:type_of% (And.intro @ALb <| And.intro @ALa <| And.intro @ABK<|And.intro @AFq<|And.intro @AFP<|And.intro @AFQ<|And.intro @Dx<|And.intro @YW<|And.intro @AQQ<|And.intro @AFZ<|And.intro @AFa<|And.intro @ADK<|And.intro @Yh<|And.intro @Yi<|And.intro @AAj<|And.intro @AAk<|And.intro @ALN<|And.intro @AGA<|And.intro @Wp<|And.intro @WY<|And.intro @We<|And.intro @Qg<|And.intro @WZ<|And.intro @Wh<|And.intro @Wi<|And.intro @Wj<|And.intro @Wl<|And.intro @Wn<|And.intro @ABF<|And.intro @Ws<|And.intro @Wq<|And.intro @sEq<|And.intro @sNe<|And.intro @sLt<|And.intro @sLe<|And.intro @sGt<|And.intro @sGe<|And.intro @Ym<|And.intro @Yl<|And.intro @WA<|And.intro @Vz<|And.intro @Ia<|And.intro @Lj<|And.intro @Lm<|And.intro @Ll<|And.intro @Nj<|And.intro @Nh<|And.intro @OY<|And.intro @MB<|And.intro @Qh<|And.intro @Sr<|And.intro @ABM<|And.intro @ABN<|And.intro @SY<|And.intro (@zav Value)<|And.intro (@zad Value)<|And.intro (@zac Value)<|And.intro @zaS<|And.intro @Nat.add_zero<|And.intro @Nat.zero_mul<|And.intro (@List.drop_succ_cons Value)<|And.intro (@List.drop_zero Value)<|And.intro (@List.take_succ_cons Value)<|And.intro (@List.take_zero Value)<|And.intro (@zaF Value)<|And.intro (@zah Value)<|And.intro (@List.drop_nil Value)<|And.intro (@List.take_nil Value)<|And.intro @ALY<|And.intro @ALX<|And.intro @ALW<|And.intro @ALV<|And.intro @ALU<|And.intro @ALT<|And.intro @ALS<|And.intro @ALR<|And.intro @ALQ<|And.intro @AHL<|And.intro @AHK<|And.intro @AHJ<|And.intro @AHI<|And.intro @AHH<|And.intro @AHG<|And.intro @AHF<|And.intro @AHE<|And.intro @AHD<|And.intro @AHC<|And.intro @AHB<|And.intro @AHA<|And.intro @AGz<|And.intro @AGy<|And.intro @AGx<|And.intro @AGw<|And.intro @AGv<|And.intro @AGu<|And.intro @AGt<|And.intro @AGs<|And.intro @AGr<|And.intro @AGq<|And.intro @AGp<|And.intro @AGo<|And.intro @AGn<|And.intro @AGm<|And.intro @AGl<|And.intro @AGk<|And.intro @AGj<|And.intro @AGi<|And.intro @AGh<|And.intro @AGg<|And.intro @AGf<|And.intro @AGe<|And.intro @AGd<|And.intro @AGc<|And.intro @AGb<|And.intro @AGa<|And.intro @AGZ<|And.intro @AGY<|And.intro @AGX<|And.intro @AGW<|And.intro @AGV<|And.intro @AGU<|And.intro @AGT<|And.intro @AGS<|And.intro @AGR<|And.intro @AGQ<|And.intro @AGP<|And.intro @AGO<|And.intro (@zaF (Nat×Obj))<|(@zah (Nat×Obj))):=And.intro @ALb <| And.intro @ALa <| And.intro @ABK<|And.intro @AFq<|And.intro @AFP<|And.intro @AFQ<|And.intro @Dx<|And.intro @YW<|And.intro @AQQ<|And.intro @AFZ<|And.intro @AFa<|And.intro @ADK<|And.intro @Yh<|And.intro @Yi<|And.intro @AAj<|And.intro @AAk<|And.intro @ALN<|And.intro @AGA<|And.intro @Wp<|And.intro @WY<|And.intro @We<|And.intro @Qg<|And.intro @WZ<|And.intro @Wh<|And.intro @Wi<|And.intro @Wj<|And.intro @Wl<|And.intro @Wn<|And.intro @ABF<|And.intro @Ws<|And.intro @Wq<|And.intro @sEq<|And.intro @sNe<|And.intro @sLt<|And.intro @sLe<|And.intro @sGt<|And.intro @sGe<|And.intro @Ym<|And.intro @Yl<|And.intro @WA<|And.intro @Vz<|And.intro @Ia<|And.intro @Lj<|And.intro @Lm<|And.intro @Ll<|And.intro @Nj<|And.intro @Nh<|And.intro @OY<|And.intro @MB<|And.intro @Qh<|And.intro @Sr<|And.intro @ABM<|And.intro @ABN<|And.intro @SY<|And.intro (@zav Value)<|And.intro (@zad Value)<|And.intro (@zac Value)<|And.intro @zaS<|And.intro @Nat.add_zero<|And.intro @Nat.zero_mul<|And.intro (@List.drop_succ_cons Value)<|And.intro (@List.drop_zero Value)<|And.intro (@List.take_succ_cons Value)<|And.intro (@List.take_zero Value)<|And.intro (@zaF Value)<|And.intro (@zah Value)<|And.intro (@List.drop_nil Value)<|And.intro (@List.take_nil Value)<|And.intro @ALY<|And.intro @ALX<|And.intro @ALW<|And.intro @ALV<|And.intro @ALU<|And.intro @ALT<|And.intro @ALS<|And.intro @ALR<|And.intro @ALQ<|And.intro @AHL<|And.intro @AHK<|And.intro @AHJ<|And.intro @AHI<|And.intro @AHH<|And.intro @AHG<|And.intro @AHF<|And.intro @AHE<|And.intro @AHD<|And.intro @AHC<|And.intro @AHB<|And.intro @AHA<|And.intro @AGz<|And.intro @AGy<|And.intro @AGx<|And.intro @AGw<|And.intro @AGv<|And.intro @AGu<|And.intro @AGt<|And.intro @AGs<|And.intro @AGr<|And.intro @AGq<|And.intro @AGp<|And.intro @AGo<|And.intro @AGn<|And.intro @AGm<|And.intro @AGl<|And.intro @AGk<|And.intro @AGj<|And.intro @AGi<|And.intro @AGh<|And.intro @AGg<|And.intro @AGf<|And.intro @AGe<|And.intro @AGd<|And.intro @AGc<|And.intro @AGb<|And.intro @AGa<|And.intro @AGZ<|And.intro @AGY<|And.intro @AGX<|And.intro @AGW<|And.intro @AGV<|And.intro @AGU<|And.intro @AGT<|And.intro @AGS<|And.intro @AGR<|And.intro @AGQ<|And.intro @AGP<|And.intro @AGO<|And.intro (@zaF (Nat×Obj))<|(@zah (Nat×Obj))
theorem SSg:type_of% (And.intro @zB<|And.intro @zak<|And.intro @Bool.and_self<|And.intro @Bool.true_and<|And.intro @decide_true<|And.intro @decide_false<|And.intro @OY<|And.intro @MB<|And.intro @Qh<|And.intro @Sr<|And.intro @ABM<|@ABN):=And.intro @zB<|And.intro @zak<|And.intro @Bool.and_self<|And.intro @Bool.true_and<|And.intro @decide_true<|And.intro @decide_false<|And.intro @OY<|And.intro @MB<|And.intro @Qh<|And.intro @Sr<|And.intro @ABM<|@ABN
abbrev Bs:=List UInt8
structure Tok where
 kind:Int
 at':Nat
 text:Bs
 num:Int
deriving DecidableEq
instance:Inhabited Tok:=⟨⟨0,0,[],0⟩⟩
structure Flt where
 code:Int
 at':Int
deriving DecidableEq
def DV (c:UInt8):Bool:=(97≤c&&c≤122)||(65≤c&&c≤90)||c==95
def CG (c:UInt8):Bool:=48≤c&&c≤57
def Rz (c:UInt8):Bool:=c==9||c==10||c==12||c==13||c==32
def Et (c:UInt8):UInt8:=if 65≤c&&c≤90 then c+32 else c
def wordsL:List Bs:=[[97,110,100],[97,115],[97,115,99],[98,101,103,105,110],[98,101,116,119,101,101,110],[98,121],[99,97,115,101],[99,111,109,109,105,116],[99,114,101,97,116,101],[99,114,111,115,115],[100,101,102,97,117,108,116],[100,101,108,101,116,101],[100,101,115,99],[100,105,115,116,105,110,99,116],[100,114,111,112],[101,108,115,101],[101,110,100],[102,97,108,115,101],[102,114,111,109],[103,114,111,117,112],[104,97,118,105,110,103],[105,110],[105,110,100,101,120],[105,110,110,101,114],[105,110,115,101,114,116],[105,110,116,111],[105,115],[106,111,105,110],[107,101,121],[108,101,102,116],[108,105,107,101],[108,105,109,105,116],[110,111,116],[110,117,108,108],[111,102,102,115,101,116],[111,110],[111,114],[111,114,100,101,114],[112,114,105,109,97,114,121],[114,111,108,108,98,97,99,107],[115,101,108,101,99,116],[115,101,116],[116,97,98,108,101],[116,104,101,110],[116,114,117,101],[117,110,105,113,117,101],[117,112,100,97,116,101],[118,97,108,117,101,115],[119,104,101,110],[119,104,101,114,101]]
def signsL:List Bs:=[[60,61],[62,61],[60,62],[33,61],[124,124],[40],[41],[44],[46],[59],[42],[43],[45],[47],[37],[61],[60],[62]]
def DC:Bool→Bs→Bs
 |_,[]=>[]
 |true,c::r=>if c==10 then DC false r else DC true r
 |false,c::r=>if Rz c then DC false r else if c==45&&r.head? ==some 45 then DC true r else c::r
def Ff (q:UInt8):Bs→Option (Bs×Bs)
 |[]=>none
 |c::r=>if c==0 then none else if c != q then (Ff q r).map λx=>(c::x.1,x.2) else match r with
  |[]=>some ([],[])
  |d::r'=>if d==q then (Ff q r').map λx=>(q::x.1,x.2) else some ([],d::r')
def Px:Bs→Int→Option Int
 |[],n=>some n
 |d::r,n=>if n > (9223372036854775807 - ((d.toNat:Int) - 48)) / 10 then none else Px r (10 * n+((d.toNat:Int) - 48))
def Ou (s:Bs):Option Bs:=signsL.find? λx=>x.isPrefixOf s
inductive LexR where
 |tok (t:Tok) (r:Bs)
 |bad (e:Int)
def Oe (w:Bs)(at':Nat)(r:Bs):LexR:=if 63 < w.length then .bad 173 else .tok ⟨if wordsL.contains w then 2 else 1,at',w,0⟩ r
def Iz (at':Nat):Bs→LexR
 |[]=>.bad 171
 |c::r=>
  if DV c then Oe (((c::r).takeWhile λc=>DV c||CG c).map Et) at' ((c::r).dropWhile λc=>DV c||CG c) else
  if CG c then (match Px ((c::r).takeWhile CG) 0 with
   |none=>.bad 172
   |some k=>if ((c::r).dropWhile CG).head?.any DV then .bad 172 else .tok ⟨3,at',[],k⟩ ((c::r).dropWhile CG)) else
  if c==34||c==39 then (match Ff c r with
   |none=>.bad 173
   |some (s,r')=>if c==34 then (if s.isEmpty||decide (63 < s.length) then .bad 173 else .tok ⟨1,at',s,0⟩ r') else .tok ⟨4,at',s,0⟩ r') else
  match Ou (c::r) with
  |none=>.bad 171
  |some s=>.tok ⟨5,at',if s=[33,61] then [60,62] else s,0⟩ ((c::r).drop s.length)
inductive LexA where
 |toks (l:List Tok)
 |bad (f:Flt)
def Ij (n:Nat):Nat→List Tok→Bs→LexA
 |0,acc,_=>.toks acc
 |m+1,acc,s=>match DC false s with
  |[]=>.toks (acc++[⟨6,n,[],0⟩])
  |c::r=>match Iz (n - (r.length+1)) (c::r) with
   | .bad e=>.bad ⟨e,(n - (r.length+1):Nat)⟩
   | .tok t r'=>Ij n m (acc++[t]) r'
def AFf (s:Bs):LexA:=Ij s.length (s.length+1) [] s
structure TValue where
 fType:Int
 fNull:Bool
 fInt:Int
 fText:Bs
deriving DecidableEq
inductive Ex where
 |mk (kind:Int) (value:TValue) (table name:Bs) (slot type:Int) (distinct:Bool) (args:List Ex)
def Ex.kind:Ex→Int| .mk k _ _ _ _ _ _ _=>k
def Ex.value:Ex→TValue| .mk _ v _ _ _ _ _ _=>v
def Ex.table:Ex→Bs| .mk _ _ t _ _ _ _ _=>t
def Ex.name:Ex→Bs| .mk _ _ _ n _ _ _ _=>n
def Ex.slot:Ex→Int| .mk _ _ _ _ s _ _ _=>s
def Ex.type:Ex→Int| .mk _ _ _ _ _ t _ _=>t
def Ex.distinct:Ex→Bool| .mk _ _ _ _ _ _ d _=>d
def Ex.args:Ex→List Ex| .mk _ _ _ _ _ _ _ l=>l
def v0:TValue:=⟨0,false,0,[]⟩
def ex0:Ex:=.mk 0 v0 [] [] 0 0 false []
instance:Inhabited Ex:=⟨ex0⟩
instance:Inhabited TValue:=⟨v0⟩
def exK (k:Int)(l:List Ex):Ex:=.mk k v0 [] [] 0 0 false l
def LY (v:TValue):Ex:=.mk 1 v [] [] 0 0 false []
def SH (t n:Bs):Ex:=.mk 2 v0 t n 0 0 false []
def Jl (n:Bs)(d:Bool)(l:List Ex):Ex:=.mk 28 v0 [] n 0 0 d l
structure TItem where
 fStar:Bool
 fTable:Bs
 fExpr:Ex
 fAs:Bs
instance:Inhabited TItem:=⟨⟨false,[],ex0,[]⟩⟩
structure TSource where
 fTable:Bs
 fAs:Bs
 fLeft:Bool
 fOn:Ex
instance:Inhabited TSource:=⟨⟨[],[],false,ex0⟩⟩
structure TOrder where
 fExpr:Ex
 fDesc:Bool
instance:Inhabited TOrder:=⟨⟨ex0,false⟩⟩
structure TSelect where
 fDistinct:Bool
 fItems:List TItem
 fFrom:List TSource
 fWhere:Ex
 fGroup:List Ex
 fHaving:Ex
 fOrder:List TOrder
 fLimit:Int
 fOffset:Int
instance:Inhabited TSelect:=⟨⟨false,[],[],ex0,[],ex0,[],0,0⟩⟩
structure TSet where
 fColumn:Bs
 fExpr:Ex
instance:Inhabited TSet:=⟨⟨[],ex0⟩⟩
structure TCol where
 fName:Bs
 fType:Int
 fNotNull:Bool
 fKey:Bool
 fUnique:Bool
 fDefault:Ex
instance:Inhabited TCol:=⟨⟨[],0,false,false,false,ex0⟩⟩
structure TIdx where
 fName:Bs
 fTable:Bs
 fColumns:List Bs
 fUnique:Bool
instance:Inhabited TIdx:=⟨⟨[],[],[],false⟩⟩
structure TStmt where
 fKind:Int
 fSelect:TSelect
 fTable:Bs
 fColumns:List Bs
 fRows:List (List Ex)
 fSets:List TSet
 fWhere:Ex
 fCols:List TCol
 fKey:List Bs
 fIndex:TIdx
instance:Inhabited TStmt:=⟨⟨0,default,[],[],[],[],ex0,[],[],default⟩⟩
inductive Res (α:Type) where
 |ok (x:α) (r:List Tok)
 |err (at':Nat)
abbrev Pr (α:Type):=List Tok→Res α
def Res.bind {α β:Type}(x:Res α)(f:α→Pr β):Res β:=match x with
 | .ok a r=>f a r
 | .err e=>.err e
def hd (l:List Tok):Tok:=l.headD default
def bad {α:Type}(l:List Tok):Res α:=.err (hd l).at'
def isT (l:List Tok)(s:Bs):Bool:=((hd l).kind==2||(hd l).kind==5)&&(hd l).text==s
def isK (l:List Tok)(k:Int):Bool:=(hd l).kind==k
def AO (s:Bs):Pr Unit:=λl=>if isT l s then .ok () l.tail else bad l
def Aw:Pr Bs:=λl=>if isK l 1 then .ok (hd l).text l.tail else bad l
def DD {α:Type}(one:Pr α):Nat→List α→Pr (List α)
 |0,acc,l=>.ok acc l
 |n+1,acc,l=>if isT l [44] then (one l.tail).bind λx r=>DD one n (acc++[x]) r else .ok acc l
def BR {α:Type}(n:Nat)(one:Pr α):Pr (List α):=λl=>(one l).bind λx r=>DD one n [x] r
def CP {α:Type}(n:Nat)(one:Pr α):Pr (List α):=λl=>(AO [40] l).bind λ_ r=>(BR n one r).bind λx r=>(AO [41] r).bind λ_ r=>.ok x r
def Gf (one:Pr Ex)(op:List Tok→Int):Nat→Ex→Pr Ex
 |0,x,l=>.ok x l
 |n+1,x,l=>if op l=0 then .ok x l else (one l.tail).bind λy r=>Gf one op n (exK (op l) [x,y]) r
def DN (n:Nat)(one:Pr Ex)(op:List Tok→Int):Pr Ex:=λl=>(one l).bind λx r=>Gf one op n x r
def UL (l:List Tok):Int:=if isT l [111,114] then 22 else 0
def LG (l:List Tok):Int:=if isT l [97,110,100] then 21 else 0
def KA (f:Bs→Option Int)(l:List Tok):Int:=if isK l 5 then (f (hd l).text).getD 0 else 0
def XW (s:Bs):Option Int:=if s=[43] then some 9 else if s=[45] then some 10 else if s=[124,124] then some 14 else none
def Oo (s:Bs):Option Int:=if s=[42] then some 11 else if s=[47] then some 12 else if s=[37] then some 13 else none
def AQU:List Tok→Int:=KA XW
def AMH:List Tok→Int:=KA Oo
def GZ (l:List Tok):Int:=if isT l [61] then 15 else if isT l [60,62] then 16 else if isT l [60] then 17 else if isT l [60,61] then 18 else if isT l [62] then 19 else if isT l [62,61] then 20 else 0
def LK (l:List Tok):Option TValue:=
 if isK l 4 then some ⟨3,false,0,(hd l).text⟩ else if isT l [116,114,117,101] then some ⟨2,false,1,[]⟩ else if isT l [102,97,108,115,101] then some ⟨2,false,0,[]⟩ else if isT l [110,117,108,108] then some ⟨4,true,0,[]⟩ else none
def Qr:Pr Ex:=λl=>if isK l 3 then .ok (LY ⟨1,false,(hd l).num,[]⟩) l.tail else bad l
def IP:Pr Ex:=λl=>match LK l with
 |some v=>.ok (LY v) l.tail
 |none=>if isT l [45] then (Qr l.tail).bind λx r=>.ok (exK 4 [x]) r else Qr l
def Ez (n:Nat)(E:Pr Ex)(acc:List Ex):Pr (List Ex):=λl=>(AO [119,104,101,110] l).bind λ_ r=>(E r).bind λa r=>(AO [116,104,101,110] r).bind λ_ r=>(E r).bind λb r=>.ok (acc++[a,b]) r
def FW (n:Nat)(E:Pr Ex):Nat→List Ex→Pr (List Ex)
 |0,acc,l=>.ok acc l
 |m+1,acc,l=>if isT l [119,104,101,110] then (Ez n E acc l).bind λa r=>FW n E m a r else .ok acc l
def Jo (n:Nat)(E:Pr Ex):Pr Ex:=λl=>(Ez n E [] l).bind λa r=>(FW n E n a r).bind λa r=>
 (if isT r [101,108,115,101] then (E r.tail).bind λx r=>.ok (a++[x]) r else Res.ok a r).bind λa r=>(AO [101,110,100] r).bind λ_ r=>.ok (exK 26 a) r
def isAgg (s:Bs):Bool:=s==[99,111,117,110,116]||s==[115,117,109]||s==[109,105,110]||s==[109,97,120]||s==[97,118,103]
def Ec (s:Bs):Bool:=s==[99,111,97,108,101,115,99,101]||s==[108,101,110,103,116,104]||isAgg s
def EP (n:Nat)(E:Pr Ex)(s:Bs):Pr Ex:=λl=>
 if s=[99,111,97,108,101,115,99,101] then (CP n E l).bind λa r=>.ok (exK 27 a) r else
 (AO [40] l).bind λ_ r=>
 if s=[108,101,110,103,116,104] then (E r).bind λx r=>(AO [41] r).bind λ_ r=>.ok (exK 8 [x]) r else
 if (s==[99,111,117,110,116]&&isT r [42])=true then (AO [41] r.tail).bind λ_ r=>.ok (Jl s false [exK 3 []]) r else
 (E (if isT r [100,105,115,116,105,110,99,116] then r.tail else r)).bind λx r'=>(AO [41] r').bind λ_ r'=>.ok (Jl s (isT r [100,105,115,116,105,110,99,116]) [x]) r'
def Hw (n:Nat)(E U:Pr Ex):Pr Ex:=λl=>
 if isT l [45] then (U l.tail).bind λx r=>.ok (exK 4 [x]) r else
 if isT l [40] then (E l.tail).bind λx r=>(AO [41] r).bind λ_ r=>.ok x r else
 if isT l [99,97,115,101] then Jo n E l.tail else
 if isK l 3 then Qr l else
 match LK l with
 |some v=>.ok (LY v) l.tail
 |none=>(Aw l).bind λs r=>
  if isT r [40]&&Ec s then EP n E s r else
  if isT r [46] then (Aw r.tail).bind λc r=>.ok (SH s c) r else .ok (SH [] s) r
def Vg (b:Bool)(x:Ex):Ex:=if b then exK 5 [x] else x
def Kz (n:Nat)(E S:Pr Ex):Pr Ex:=λl=>(S l).bind λx r=>
 if GZ r≠0 then (S r.tail).bind λy r'=>.ok (exK (GZ r) [x,y]) r' else
 if isT r [105,115] then (if isT r.tail [110,111,116] then (AO [110,117,108,108] r.tail.tail).bind λ_ r=>.ok (exK 7 [x]) r else (AO [110,117,108,108] r.tail).bind λ_ r=>.ok (exK 6 [x]) r) else
 let b:=isT r [110,111,116]
 let q:=if b then r.tail else r
 if isT q [105,110] then (CP n E q.tail).bind λa r=>.ok (Vg b (exK 24 (x::a))) r else
 if isT q [98,101,116,119,101,101,110] then (S q.tail).bind λy r=>(AO [97,110,100] r).bind λ_ r=>(S r).bind λz r=>.ok (Vg b (exK 25 [x,y,z])) r else
 if isT q [108,105,107,101] then (S q.tail).bind λy r=>.ok (Vg b (exK 23 [x,y])) r else
 if b then bad q else .ok x q
def Vf (N Q:Pr Ex):Pr Ex:=λl=>if isT l [110,111,116] then (N l.tail).bind λx r=>.ok (exK 5 [x]) r else Q l
def Jk:Nat→Pr Ex×Pr Ex×Pr Ex
 |0=>(λ_=>.err 0,λ_=>.err 0,λ_=>.err 0)
 |n+1=>
  let U:=Hw n (Jk n).1 (Jk n).2.2
  let S:=DN n (DN n U AMH) AQU
  let N:=Vf (Jk n).2.1 (Kz n (Jk n).1 S)
  (DN n (DN n N LG) UL,N,U)
def eP (n:Nat):Pr Ex:=(Jk n).1
def nP (n:Nat):Pr Ex:=(Jk n).2.1
def uP (n:Nat):Pr Ex:=(Jk n).2.2
def Eh (n:Nat)(s:Bs):Pr Ex:=λl=>if isT l s then eP n l.tail else .ok ex0 l
def Ic (n:Nat):Pr TItem:=λl=>
 if isT l [42] then .ok ⟨true,[],ex0,[]⟩ l.tail else
 if isK l 1&&isK l.tail 5&&(hd l.tail).text==[46]&&isK l.tail.tail 5&&(hd l.tail.tail).text==[42] then .ok ⟨true,(hd l).text,ex0,[]⟩ l.tail.tail.tail else
 (eP n l).bind λx r=>if isT r [97,115] then (Aw r.tail).bind λa r=>.ok ⟨false,[],x,a⟩ r else .ok ⟨false,[],x,[]⟩ r
def Iu (n:Nat):Pr TOrder:=λl=>(eP n l).bind λx r=>if isT r [100,101,115,99] then .ok ⟨x,true⟩ r.tail else if isT r [97,115,99] then .ok ⟨x,false⟩ r.tail else .ok ⟨x,false⟩ r
def DK:Pr TSource:=λl=>(Aw l).bind λs r=>if isT r [97,115] then (Aw r.tail).bind λa r=>.ok ⟨s,a,false,ex0⟩ r else if isK r 1 then (Aw r).bind λa r=>.ok ⟨s,a,false,ex0⟩ r else .ok ⟨s,[],false,ex0⟩ r
def Hf (n:Nat)(b:Bool):Pr TSource:=λl=>(AO [106,111,105,110] l).bind λ_ r=>(DK r).bind λs r=>(AO [111,110] r).bind λ_ r=>(eP n r).bind λx r=>.ok ⟨s.fTable,s.fAs,b,x⟩ r
def DZ (n:Nat):Nat→List TSource→Pr (List TSource)
 |0,acc,l=>.ok acc l
 |m+1,acc,l=>
  if isT l [44] then (DK l.tail).bind λs r=>DZ n m (acc++[s]) r else
  if isT l [99,114,111,115,115] then (AO [106,111,105,110] l.tail).bind λ_ r=>(DK r).bind λs r=>DZ n m (acc++[s]) r else
  if isT l [108,101,102,116] then (Hf n true l.tail).bind λs r=>DZ n m (acc++[s]) r else
  if isT l [105,110,110,101,114] then (Hf n false l.tail).bind λs r=>DZ n m (acc++[s]) r else
  if isT l [106,111,105,110] then (Hf n false l).bind λs r=>DZ n m (acc++[s]) r else .ok acc l
def NW (n:Nat):Pr (List TSource):=λl=>(DK l).bind λs r=>DZ n n [s] r
def GH:Pr Int:=λl=>if isK l 3&&decide ((hd l).num≤2147483647) then .ok (hd l).num l.tail else bad l
def UJ {α:Type}(s:Bs)(d:α)(p:Pr α):Pr α:=λl=>if isT l s then p l.tail else .ok d l
def byP {α:Type}(p:Pr α):Pr α:=λl=>(AO [98,121] l).bind λ_ r=>p r
def Iq (n:Nat):Pr TSelect:=λl=>
 let d:=isT l [100,105,115,116,105,110,99,116]
 (BR n (Ic n) (if d then l.tail else l)).bind λitems r=>
 (UJ [102,114,111,109] [] (NW n) r).bind λfroms r=>
 (Eh n [119,104,101,114,101] r).bind λwh r=>
 (UJ [103,114,111,117,112] [] (byP (BR n (eP n))) r).bind λgr r=>
 (Eh n [104,97,118,105,110,103] r).bind λha r=>
 (UJ [111,114,100,101,114] [] (byP (BR n (Iu n))) r).bind λod r=>
 (UJ [108,105,109,105,116] (-1) GH r).bind λli r=>
 (UJ [111,102,102,115,101,116] 0 GH r).bind λoff r=>.ok ⟨d,items,froms,wh,gr,ha,od,li,off⟩ r
def Xi (n:Nat):Pr TSet:=λl=>(Aw l).bind λs r=>(AO [61] r).bind λ_ r=>(eP n r).bind λx r=>.ok ⟨s,x⟩ r
def typeOf (s:Bs):Int:=if s=[105,110,116]∨s=[105,110,116,101,103,101,114]∨s=[98,105,103,105,110,116] then 1 else if s=[98,111,111,108]∨s=[98,111,111,108,101,97,110] then 2 else if s=[116,101,120,116] then 3 else 0
def GY:Nat→TCol→Pr TCol
 |0,c,l=>.ok c l
 |n+1,c,l=>
  if !c.fNotNull&&isT l [110,111,116] then (AO [110,117,108,108] l.tail).bind λ_ r=>GY n {c with fNotNull:=true} r else
  if !c.fKey&&isT l [112,114,105,109,97,114,121] then (AO [107,101,121] l.tail).bind λ_ r=>GY n {c with fKey:=true} r else
  if !c.fUnique&&isT l [117,110,105,113,117,101] then GY n {c with fUnique:=true} l.tail else
  if c.fDefault.kind==0&&isT l [100,101,102,97,117,108,116] then (IP l.tail).bind λx r=>GY n {c with fDefault:=x} r else .ok c l
def FN (n:Nat):Pr TCol:=λl=>(Aw l).bind λs r=>
 let t:=if isK r 1 then typeOf (hd r).text else 0
 if t=0 then bad r else GY n ⟨s,t,false,false,false,ex0⟩ r.tail
def FY (n:Nat):Nat→List TCol→List Bs→Pr (List TCol×List Bs)
 |0,cs,ks,l=>.ok (cs,ks) l
 |m+1,cs,ks,l=>
  (if ks.isEmpty&&isT l [112,114,105,109,97,114,121] then (AO [107,101,121] l.tail).bind λ_ r=>(CP n Aw r).bind λk r=>.ok (cs,k) r else (FN n l).bind λc r=>Res.ok (cs++[c],ks) r).bind λx r=>
  if isT r [44] then FY n m x.1 x.2 r.tail else .ok x r
def Sz (n:Nat):Pr TStmt:=λl=>(Aw l).bind λs r=>(AO [40] r).bind λ_ r=>(FY n (n+1) [] [] r).bind λx r=>
 if x.1.isEmpty then bad r else (AO [41] r).bind λ_ r=>.ok {(default:TStmt) with fKind:=5,fTable:=s,fCols:=x.1,fKey:=x.2} r
def Gi (n:Nat):Pr TStmt:=λl=>if isT l [116,97,98,108,101] then Sz n l.tail else
 let u:=isT l [117,110,105,113,117,101]
 (AO [105,110,100,101,120] (if u then l.tail else l)).bind λ_ r=>(Aw r).bind λa r=>(AO [111,110] r).bind λ_ r=>(Aw r).bind λt r=>(CP n Aw r).bind λc r=>
 .ok {(default:TStmt) with fKind:=6,fIndex:=⟨a,t,c,u⟩} r
def Gg:Pr TStmt:=λl=>if isT l [116,97,98,108,101] then (Aw l.tail).bind λs r=>.ok {(default:TStmt) with fKind:=7,fTable:=s} r else
 (AO [105,110,100,101,120] l).bind λ_ r=>(Aw r).bind λs r=>.ok {(default:TStmt) with fKind:=8,fIndex:=⟨s,[],[],false⟩} r
def EI (n:Nat):Pr TStmt:=λl=>(AO [105,110,116,111] l).bind λ_ r=>(Aw r).bind λs r=>
 (if isT r [40] then CP n Aw r else Res.ok [] r).bind λc r=>(AO [118,97,108,117,101,115] r).bind λ_ r=>(BR n (CP n (eP n)) r).bind λx r=>.ok {(default:TStmt) with fKind:=2,fTable:=s,fColumns:=c,fRows:=x} r
def EG (n:Nat):Pr TStmt:=λl=>(Aw l).bind λs r=>(AO [115,101,116] r).bind λ_ r=>(BR n (Xi n) r).bind λx r=>(Eh n [119,104,101,114,101] r).bind λw r=>.ok {(default:TStmt) with fKind:=3,fTable:=s,fSets:=x,fWhere:=w} r
def EJ (n:Nat):Pr TStmt:=λl=>(AO [102,114,111,109] l).bind λ_ r=>(Aw r).bind λs r=>(Eh n [119,104,101,114,101] r).bind λw r=>.ok {(default:TStmt) with fKind:=4,fTable:=s,fWhere:=w} r
def ES (n:Nat):Pr TStmt:=λl=>
 if isT l [115,101,108,101,99,116] then (Iq n l.tail).bind λq r=>.ok {(default:TStmt) with fKind:=1,fSelect:=q} r else
 if isT l [105,110,115,101,114,116] then EI n l.tail else
 if isT l [117,112,100,97,116,101] then EG n l.tail else
 if isT l [100,101,108,101,116,101] then EJ n l.tail else
 if isT l [99,114,101,97,116,101] then Gi n l.tail else
 if isT l [100,114,111,112] then Gg l.tail else
 if isT l [98,101,103,105,110] then .ok {(default:TStmt) with fKind:=9} l.tail else
 if isT l [99,111,109,109,105,116] then .ok {(default:TStmt) with fKind:=10} l.tail else
 (AO [114,111,108,108,98,97,99,107] l).bind λ_ r=>.ok {(default:TStmt) with fKind:=11} r
def Cm (n:Nat):Nat→List TStmt→Pr (List TStmt)
 |0,acc,l=>.ok acc l
 |m+1,acc,l=>if isK l 6 then .ok acc l else if isT l [59] then Cm n m acc l.tail else
  (ES n l).bind λs r=>if isK r 6||isT r [59] then Cm n m (acc++[s]) r else bad r
mutual
def Aj:Ex→Nat
 | .mk _ _ _ _ _ _ _ l=>Aa l+1
def Aa:List Ex→Nat
 |[]=>0
 |x::l=>Aj x+Aa l
end
mutual
def Fz:Ex→Nat
 | .mk _ _ _ _ _ _ _ l=>Bz l+1
def Bz:List Ex→Nat
 |[]=>0
 |x::l=>max (Fz x) (Bz l)
end
def FH (s:TStmt):List Ex:=
 (s.fSelect.fItems.map (·.fExpr)++s.fSelect.fFrom.map (·.fOn)++[s.fSelect.fWhere,s.fSelect.fHaving,s.fWhere]++s.fSelect.fGroup++s.fSelect.fOrder.map (·.fExpr)++s.fRows.flatten++s.fSets.map (·.fExpr)++s.fCols.map (·.fDefault)).filter λx=>x.kind != 0
def Jz (s:TStmt):Nat:=Aa (FH s)+1
def AFy (s:TStmt):Nat:=Bz (FH s)
def BG (l:List TStmt):Nat:=(l.map Jz).sum
def Du:List TStmt→Nat
 |[]=>0
 |s::l=>max (AFy s) (Du l)
def ok0:Flt:=⟨0,0⟩
def readA (s:Bs):List TStmt×Flt:=match AFf s with
 | .bad f=>([],f)
 | .toks l=>match Cm l.length (l.length+1) [] l with
  | .ok x _=>(x,ok0)
  | .err a=>([],⟨174,a⟩)
def UR (parts deep:Nat):Int:=if 64 < deep then 175 else if 2000 < parts then 176 else 0
def Cc (s:Bs):List TStmt×Flt:=
 if 65536 < s.length then ([],⟨170,65536⟩) else
 if (readA s).2≠ok0 then ([],(readA s).2) else
 if UR (BG (readA s).1) (Du (readA s).1)≠0 then ([],⟨UR (BG (readA s).1) (Du (readA s).1),0⟩) else ((readA s).1,ok0)
structure TField where
 fName:Bs
 fType:Int
deriving DecidableEq
structure TCell where
 fNull:Bool
 fText:Bs
deriving DecidableEq
structure TBack where
 fKind:Int:=0
 fName:Bs:=[]
 fText:Bs:=[]
 fPid:Int:=0
 fSecret:Int:=0
 fStatus:Int:=0
 fFields:List TField:=[]
 fCells:List TCell:=[]
 fState:Bs:=[]
 fFatal:Bool:=false
structure TParam where
 fName:Bs
 fValue:Bs
structure TFront where
 fKind:Int:=0
 fParams:List TParam:=[]
 fText:Bs:=[]
 fPid:Int:=0
 fSecret:Int:=0
 fTag:Int:=0
structure TOut where
 fFields:List TField
 fRows:List (List TValue)
 fTag:Bs
instance:Inhabited TField:=⟨⟨[],0⟩⟩
instance:Inhabited TCell:=⟨⟨false,[]⟩⟩
instance:Inhabited TBack:=⟨{}⟩
instance:Inhabited TParam:=⟨⟨[],[]⟩⟩
instance:Inhabited TFront:=⟨{}⟩
instance:Inhabited TOut:=⟨⟨[],[],[]⟩⟩
def byI (n:Int):UInt8:=UInt8.ofNat (n % 256).toNat
def beB (n:Int):Nat→Bs
 |0=>[]
 |k+1=>byI (n.fdiv (2 ^ (8 * k)))::beB n k
def txB (l:List Bs):Bs:=l.flatMap (·++[0])
def clB (l:List Bs):Bool:=l.all λs=>s.all (· != 0)
def i32 (n:Int):Int:=IntKind.i32.wrap n
def smB (l:List Int):Bool:=l.all λn=>n==i32 n
def KI (t:Int):Option (Int×Int):=if t==1 then some (20,8) else if t==2 then some (16,1) else if t==3 then some (25, -1) else none
def NC (f:TField)(c:Int×Int):Bs:=txB [f.fName]++beB 0 4++beB 0 2++beB c.1 4++beB c.2 2++beB (-1) 4++beB 0 2
def Bl:List TField→Option Bs
 |[]=>some []
 |f::r=>match KI f.fType with
  |none=>none
  |some c=>if clB [f.fName] then (Bl r).map (NC f c++·) else none
def DF (l:List TField):Bs×Bool:=match Bl l with
 |some t=>(beB l.length 2++t,decide (l.length≤1600))
 |none=>([],false)
def Au (c:TCell):Bs:=if c.fNull then beB (-1) 4 else beB c.fText.length 4++c.fText
def BH (l:List TCell):Nat:=(l.map λc=>4+c.fText.length).sum+2
def CE (l:List TCell):Bs×Int×Bool:=
 if l.any λc=>c.fNull&&c.fText != [] then ([],0,false)
 else if 1073741824 < BH l+4∨1600 < l.length then ([],BH l,decide (l.length≤1600))
 else (beB l.length 2++l.flatMap Au,BH l,true)
def ABb (c:UInt8):Bool:=(48≤c&&c≤57)||(65≤c&&c≤90)
def Dq (s:Bs):Bool:=s.length==5&&s.all ABb
def Am (m:TBack):TBack×Bs×Int×Bool:=
 if m.fKind==1 then ({fKind:=1},beB 0 4,0,true)
 else if m.fKind==3 then ({fKind:=3,fPid:=m.fPid,fSecret:=m.fSecret},beB m.fPid 4++beB m.fSecret 4,0,smB [m.fPid,m.fSecret])
 else if m.fKind==4 then ({fKind:=4,fStatus:=m.fStatus},[byI m.fStatus],0,m.fStatus==73||m.fStatus==84||m.fStatus==69)
 else if m.fKind==5 then ({fKind:=5,fFields:=m.fFields},(DF m.fFields).1,0,(DF m.fFields).2)
 else if m.fKind==6 then ({fKind:=6,fCells:=m.fCells},(CE m.fCells).1,(CE m.fCells).2.1,(CE m.fCells).2.2)
 else if m.fKind==2 then ({fKind:=2,fName:=m.fName,fText:=m.fText},txB [m.fName]++txB [m.fText],0,clB [m.fName,m.fText])
 else if m.fKind==7 then ({fKind:=7,fText:=m.fText},txB [m.fText],0,clB [m.fName,m.fText])
 else if m.fKind==9 then ({fKind:=9,fState:=m.fState,fText:=m.fText,fFatal:=m.fFatal},
  txB [83::(if m.fFatal then [70,65,84,65,76] else [69,82,82,79,82]),86::(if m.fFatal then [70,65,84,65,76] else [69,82,82,79,82]),67::m.fState,77::m.fText]++[0],0,Dq m.fState&&clB [m.fText])
 else if m.fKind==8∨m.fKind==10 then ({fKind:=m.fKind},[],0,true)
 else ({fKind:=m.fKind},[],0,false)
def Jc (a b:TBack):Bool:=a.fKind==b.fKind&&a.fName==b.fName&&a.fText==b.fText&&a.fPid==b.fPid&&a.fSecret==b.fSecret&&a.fStatus==b.fStatus&&a.fState==b.fState&&a.fFatal==b.fFatal&&a.fFields.length==b.fFields.length&&a.fCells.length==b.fCells.length
def tagsW:Bs:=[32,82,83,75,90,84,68,67,73,69]
def Bq (m:TBack):Bs×Int:=
 let t:=Am m
 if !t.2.2.2|| !Jc t.1 m then ([],230)
 else if m.fKind==10 then ([78],0)
 else if 1073741824 < max t.2.2.1 t.2.1.length+4 then ([],231)
 else (tagsW.getD m.fKind.toNat 0::beB (t.2.1.length+4:Nat) 4++t.2.1,0)
def Cf:List TBack→Bs→Bs×Int
 |[],acc=>(acc,0)
 |m::r,acc=>if (Bq m).2 != 0 then ([],(Bq m).2) else Cf r (acc++(Bq m).1)
def n4W (a b c d:UInt8):Int:=i32 ((Dv .or .u32 (Dv .or .u32 (Dv .or .u32 (IntKind.u32.wrap (a.toNat * 16777216)) (IntKind.u32.wrap (b.toNat * 65536))) (IntKind.u32.wrap (c.toNat * 256))) d.toNat))
structure Rdq where
 b:Bs
 bad:Bool
def Rdq.take (n:Int)(r:Rdq):Bs×Rdq:=if n < 0∨(r.b.length:Int) < n then ([],⟨r.b,true⟩) else (r.b.take n.toNat,⟨r.b.drop n.toNat,r.bad⟩)
def ix0 (l:Bs):Int:=match l.findIdx? (·==0) with
 |some i=>(i:Nat)
 |none=> -1
def Rdq.text (r:Rdq):Bs×Rdq:=
 let q:=r.take (ix0 r.b)
 if q.2.bad then q else (q.1,(q.2.take 1).2)
def ALu (c:UInt8):Int:=IntKind.i8.wrap c.toNat
def AIM:Int→Bs→Int
 |n,[]=>n
 |n,c::r=>AIM (Dv .or .i64 (IntKind.i64.wrap (n * 256)) c.toNat) r
def AIN:Bs→Int
 |[]=>0
 |c::r=>AIM (ALu c) r
def Rdq.num (k:Int)(r:Rdq):Int×Rdq:=(AIN (r.take k).1,(r.take k).2)
def Rdq.whole (r:Rdq):Bool:= !r.bad&&r.b.isEmpty
def CQ:Nat→Rdq→List TParam→Option (List TParam×Rdq)
 |0,r,acc=>some (acc,r)
 |f+1,r,acc=>if r.b.length > 0&&(r.b.headD 0 != 0&& !r.bad) then (if acc.length==32 then none else
   CQ f (r.text.2.text.2) (acc++[⟨r.text.1,r.text.2.text.1⟩])) else some (acc,r)
def Jh (b:Bs):TFront×Int:=
 let q:=(Rdq.mk b false).num 4
 let fin (f:TFront) (r:Rdq):TFront×Int:=if r.whole then (f,0) else ({},230)
 if q.1==80877103 then fin {fKind:=2} q.2
 else if q.1==80877102 then fin {fKind:=3,fPid:=(q.2.num 4).1,fSecret:=((q.2.num 4).2.num 4).1} ((q.2.num 4).2.num 4).2
 else if q.1==196608 then (match CQ (b.length+1) q.2 [] with
  |none=>({},231)
  |some (l,r)=>fin {fKind:=1,fParams:=l} (r.take 1).2)
 else ({},232)
def Qs (tag:Int)(b:Bs):TFront×Int:=
 let r:Rdq:=⟨b,false⟩
 let fin (f:TFront) (r:Rdq):TFront×Int:=if r.whole then (f,0) else ({},230)
 if tag==81 then fin {fKind:=4,fText:=r.text.1} r.text.2
 else if tag==88 then fin {fKind:=5} r
 else fin {fKind:=6,fTag:=tag} ⟨[],r.bad⟩
def Gt (b:Bs)(head:Nat)(least most:Int):Int×Int:=
 if b.length < head+4 then (0,10) else
 let n:=n4W (b.getD head 0) (b.getD (head+1) 0) (b.getD (head+2) 0) (b.getD (head+3) 0)
 if n < least then (0,230) else if most < n then (0,231) else if (b.length:Int) - head < n then (0,10) else (n,0)
def BN (b:Bs)(startup:Bool):TFront×Int×Int:=
 let head:=if startup then 0 else 1
 if !startup&&(b.length > 0&&(b.headD 0==0||decide (127 < b.headD 0))) then ({},0,230) else
 let q:=Gt b head (if startup then 8 else 4) (if startup then 10000 else 1048576)
 if q.2 != 0 then ({},0,q.2) else
 let body:=(b.drop (head+4)).take (q.1.toNat - 4)
 let o:=if startup then Jh body else Qs (b.headD 0).toNat body
 if o.2 != 0 then ({},0,o.2) else (o.1,head+q.1,0)
def CZ (e:Int):Bs×Bs:=
 if e=170∨e=175∨e=176 then ([53,52,48,48,49],[115,116,97,116,101,109,101,110,116,32,105,115,32,116,111,111,32,108,97,114,103,101])
 else if e=171∨e=172∨e=173∨e=174∨e=177∨e=284 then ([52,50,54,48,49],[115,121,110,116,97,120,32,101,114,114,111,114])
 else if e=180 then ([52,50,80,48,49],[110,111,32,115,117,99,104,32,116,97,98,108,101])
 else if e=181∨e=186 then ([52,50,80,48,55],[105,116,32,105,115,32,116,104,101,114,101,32,97,108,114,101,97,100,121])
 else if e=182 then ([52,50,55,48,51],[110,111,32,115,117,99,104,32,99,111,108,117,109,110])
 else if e=183 then ([52,50,55,48,49],[116,104,101,32,99,111,108,117,109,110,32,105,115,32,110,97,109,101,100,32,116,119,105,99,101])
 else if e=184 then ([52,50,55,48,50],[116,104,101,32,99,111,108,117,109,110,32,105,115,32,97,109,98,105,103,117,111,117,115])
 else if e=280 then ([52,50,55,49,50],[116,104,101,32,116,97,98,108,101,32,105,115,32,110,97,109,101,100,32,116,119,105,99,101])
 else if e=185 then ([52,50,55,48,52],[110,111,32,115,117,99,104,32,105,110,100,101,120])
 else if e=187 then ([52,50,56,48,52],[116,121,112,101,115,32,100,111,32,110,111,116,32,109,97,116,99,104])
 else if e=188 then ([52,50,56,48,51],[105,116,32,109,117,115,116,32,115,116,97,110,100,32,105,110,32,71,82,79,85,80,32,66,89,32,111,114,32,105,110,32,97,110,32,97,103,103,114,101,103,97,116,101])
 else if e=283 then ([52,50,80,49,48],[105,116,32,109,117,115,116,32,115,116,97,110,100,32,105,110,32,116,104,101,32,115,101,108,101,99,116,32,108,105,115,116])
 else if e=189 then ([52,50,80,49,54],[111,110,101,32,112,114,105,109,97,114,121,32,107,101,121,32,105,115,32,110,101,101,100,101,100])
 else if e=281∨e=201∨e=223 then ([53,52,48,48,48],[97,32,108,105,109,105,116,32,105,115,32,101,120,99,101,101,100,101,100])
 else if e=190 then ([50,50,48,48,51],[110,117,109,98,101,114,32,111,117,116,32,111,102,32,114,97,110,103,101])
 else if e=191 then ([50,50,48,49,50],[100,105,118,105,115,105,111,110,32,98,121,32,122,101,114,111])
 else if e=192 then ([50,50,48,48,49],[116,101,120,116,32,105,115,32,116,111,111,32,108,111,110,103])
 else if e=221 then ([50,51,53,48,53],[116,104,101,32,107,101,121,32,105,115,32,116,104,101,114,101,32,97,108,114,101,97,100,121])
 else if e=222 then ([50,51,53,48,50],[110,117,108,108,32,119,104,101,114,101,32,110,111,110,101,32,109,97,121,32,98,101])
 else if e=24∨e=23 then ([53,51,49,48,48],[116,104,101,32,100,105,115,107,32,105,115,32,102,117,108,108])
 else if e=161∨e=144 then ([52,48,48,48,49],[98,101,103,105,110,32,116,104,101,32,116,114,97,110,115,97,99,116,105,111,110,32,97,103,97,105,110])
 else if e=82 then ([53,51,48,48,48],[111,117,116,32,111,102,32,116,105,109,101,115,116,97,109,112,115])
 else if e=230∨e=231∨e=232 then ([48,56,80,48,49],[112,114,111,116,111,99,111,108,32,118,105,111,108,97,116,105,111,110])
 else if e=224∨e=282 then ([88,88,48,48,49],[115,116,111,114,101,100,32,114,111,119,115,32,97,114,101,32,100,97,109,97,103,101,100])
 else ([88,88,48,48,48],[105,110,116,101,114,110,97,108,32,101,114,114,111,114])
structure Ses where
 pid:Int
 secret:Int
 status:Int:=0
 left:Bs:=[]
 query:Bool:=false
 stmts:List TStmt:=[]
 kind:Int:=0
 stmt:TStmt:=default
 own:Bool:=false
 ended:Bool:=false
 out:Bs:=[]
def BD (s:Ses)(l:List TBack):Ses:=if (Cf l []).2 != 0 then s else {s with out:=s.out++(Cf l []).1}
def Bj (s:Ses)(e:Int)(fatal:Bool):Ses:=BD s [{fKind:=9,fState:=(CZ e).1,fText:=(CZ e).2,fFatal:=fatal}]
def Dt (s:Ses)(tag:Bs):Ses:=BD s [{fKind:=7,fText:=tag}]
def Ig (s:Ses):Ses:={s with ended:=true,left:=[],query:=false,stmts:=[],kind:=if s.status==84||s.kind==4 then 4 else 0,stmt:=default,own:=false}
def Dh (s:Ses):Ses:=if s.status==84 then {s with stmts:=[],status:=69,kind:=4,stmt:=default,own:=false} else {s with stmts:=[]}
def IZ (s:Ses):Ses:=if s.ended then s else Ig s
def Jb (s:Ses)(kind asked:Int)(tag:Bs):Ses:=if s.status==asked then {s with kind:=kind,stmt:=default,own:=false} else Dt s tag
def Fj (s:Ses)(x:TStmt):Ses:=
 if s.status==69 then (if x.fKind==10||x.fKind==11 then Dt {s with status:=73} [82,79,76,76,66,65,67,75]
  else {BD s [{fKind:=9,fState:=[50,53,80,48,50],fText:=[116,104,101,32,116,114,97,110,115,97,99,116,105,111,110,32,104,97,115,32,102,97,105,108,101,100]}] with stmts:=[]})
 else if x.fKind==9 then Jb s 2 73 [66,69,71,73,78]
 else if x.fKind==10 then Jb s 3 84 [67,79,77,77,73,84]
 else if x.fKind==11 then Jb s 4 84 [82,79,76,76,66,65,67,75]
 else {s with kind:=1,stmt:=x,own:=s.status==73}
def IM (s:Ses):Ses:=BD {s with status:=73} [{fKind:=1},{fKind:=2,fName:=[115,101,114,118,101,114,95,118,101,114,115,105,111,110],fText:=[49,54,46,48]},{fKind:=2,fName:=[99,108,105,101,110,116,95,101,110,99,111,100,105,110,103],fText:=[85,84,70,56]},{fKind:=2,fName:=[68,97,116,101,83,116,121,108,101],fText:=[73,83,79]},{fKind:=3,fPid:=s.pid,fSecret:=s.secret},{fKind:=4,fStatus:=73}]
def Ug (s:Ses)(t:Bs):Ses:=
 if (Cc t).2.code != 0 then Dh (Bj {s with query:=true} (Cc t).2.code false)
 else if (Cc t).1.isEmpty then {BD {s with query:=true} [{fKind:=8}] with stmts:=(Cc t).1}
 else {s with query:=true,stmts:=(Cc t).1}
def Ha (s:Ses)(f:TFront):Ses:=
 if f.fKind==2 then BD s [{fKind:=10}]
 else if f.fKind==3||f.fKind==5 then Ig s
 else if f.fKind==1 then IM s
 else if f.fKind==4 then Ug s f.fText
 else Ig (Bj s 230 true)
def CY (s:Ses):Option Ses:=
 if s.ended||s.kind != 0 then none
 else if s.query&& !s.stmts.isEmpty then some (Fj {s with stmts:=s.stmts.tail} (s.stmts.headD default))
 else if s.query then some (BD {s with query:=false} [{fKind:=4,fStatus:=s.status}])
 else
  let q:=BN s.left (s.status==0)
  if q.2.2==10 then none
  else if q.2.2 != 0 then some (Ig (Bj s q.2.2 true))
  else some (Ha {s with left:=s.left.drop q.2.1.toNat} q.1)
def onF:Nat→Ses→Ses
 |0,s=>s
 |f+1,s=>match CY s with
  |none=>s
  |some t=>onF f t
def ALM (s:Ses):Nat:=s.left.length * 2010+s.stmts.length+(if s.query then 1 else 0)+1
def goF (s:Ses):Ses:=onF (ALM s) s
def FM (s:Ses)(b:Bs):Ses×Bs:=
 if s.ended then (s,[]) else
 let s1:={s with left:=s.left++b}
 let s2:=if 2097152 < s1.left.length then Ig (Bj s1 231 true) else goF s1
 ({s2 with out:=[]},s2.out)
def EF (dec:Int→Bs)(v:TValue):TCell:=
 if v.fNull then ⟨true,[]⟩ else if v.fType==1 then ⟨false,dec v.fInt⟩ else if v.fType==2 then ⟨false,if v.fInt==1 then [116] else [102]⟩ else ⟨false,v.fText⟩
def BU (dec:Int→Bs)(o:TOut):List TBack:=(if o.fFields.length > 0 then {fKind:=5,fFields:=o.fFields}::o.fRows.map λr=>{fKind:=6,fCells:=r.map (EF dec)} else [])++[{fKind:=7,fText:=o.fTag}]
def NL (s:Ses)(asked e:Int):Ses:=
 let s:={s with status:=73}
 if e != 0 then {Bj s e false with stmts:=[]} else if asked==2 then Dt {s with status:=84} [66,69,71,73,78] else Dt s [67,79,77,77,73,84]
def DX (dec : Int → Bs) (s : Ses) (o : TOut) (e : Int) : Ses :=
  let asked := s.kind
  let s0 := { s with kind := 0, stmt := default, own := false }
  if asked == 1 then
    (let e1 := if e == 0 then (Cf (BU dec o) []).2 else e
     let s2 := if e == 0 then BD s0 (BU dec o) else s0
     if e1 != 0 then Dh (Bj s2 e1 false) else s2)
  else if asked == 4 then (if s0.status == 84 && !s0.ended then Dt { s0 with status := 73 } [82, 79, 76, 76, 66, 65, 67, 75] else s0)
  else NL s0 asked e
def KP (dec:Int→Bs)(s:Ses)(o:TOut)(e:Int):Ses×Bs:=
 if s.kind==0 then (s,[]) else ({goF (DX dec s o e) with out:=[]},(goF (DX dec s o e)).out)
theorem KU (a b:List Bs):txB (a++b)=txB a++txB b:=by simp only [txB,zbx]
theorem EH (a:Bs):txB [a]=a++[0]:=by simp only [txB,zaH,List.flatMap_nil,zaK]
abbrev OwB (X:LH)(v:Value)(l:Bs):Prop:=SlO 5 1 X v (Lib.byteCells l) l.length
theorem OwB.mk {X:LH}{v:Value}{l t:Bs}(h:SlO 5 1 X v (Lib.byteCells l++Lib.byteCells t) (l.length+t.length)):OwB X v (l++t):=by
 unfold OwB;rw [Lib.byteCells_append,zk];exact h
theorem OW (n:Int):((byI n).toNat:Int)=IntKind.u8.wrap n:=by
 have h:(0:Int)≤n % 256∧n % 256 < 256:=by omega
 simp only [byI,IntKind.wrap,IntKind.signed,IntKind.bits];simp
 omega
theorem AHi (a:Int)(m:Nat)(h:m≤7):AA .shr (.int .i64 a) (.int .i64 (8 * (m:Int)))=some (.int .i64 (a.fdiv (2 ^ (8 * m)))):=by
 have h1:¬(8 * (m:Int)) < 0:=by omega
 simp only [AA];rw [if_neg h1];have h2:min (8 * (m:Int)).toNat IntKind.i64.bits=8 * m:=by
  have:IntKind.i64.bits=64:=rfl;rw [this];omega
 rw [h2]
section
variable {ω:Om}{I:Imm}{F:LH}{K:Value→M}
theorem zqa {P Q:Prop}(k:Q)(h:Q→P:=by intro hq;first|(with_reducible refine Ci ?_;exact hq)|(with_reducible refine UZ ?_;exact hq)|(with_reducible refine AMe ?_;exact hq)|(with_reducible exact keepA hq)):P:=h k
theorem zqr {P Q:Prop}(k:Q)(h:Q→P:=by intro hq;first|(with_reducible refine rdb ?_;exact hq)):P:=h k
theorem zqb {P Q:Prop}(k:Q)(h:Q→P:=by intro hq;first|((with_reducible first|refine st1 ?_ ?_|refine rdB ?_ ?_);rfl;exact hq)|(with_reducible refine BJ ?_;exact hq)|((with_reducible refine JZ ?_ ?_);rfl;exact hq)|((with_reducible refine stB ?_ ?_ ?_ ?_);rfl;rfl;exact AV rfl;exact hq)|((with_reducible first|refine rdP _ rfl ?_ ?_|refine AMD _ rfl ?_ ?_);rfl;exact hq)|((with_reducible refine stP _ rfl ?_ ?_ ?_ ?_);rfl;rfl;rfl;exact hq)):P:=h k
theorem zqc {P Q:Prop}(k:Q)(h:Q→P:=by intro hq;first|(simp only [SSg,Int.reduceBEq,Int.reduceBNe,Int.reduceLT,Int.reduceLE,beq_self_eq_true,bne_self_eq_false];exact hq)):P:=h k
theorem zqe {P Q:Prop}(k:Q)(h:Q→P:=by intro hq;first|(simp only [SSd,Nat.reduceAdd];exact hq)):P:=h k
theorem zqg {P A B C D:Prop}(k:A→C)(l:B→D)(h:(A→C)→(B→D)→P:=by intro h1 h2;with_reducible first|exact BX h1 h2|exact AL h1 h2):P:=h k l
theorem zqh {P:Prop}{α:Type}{Q:α→Prop}(k:∀x,Q x)(h:(∀x,Q x)→P:=by intro h;with_reducible exact Ap h):P:=h k
theorem zqi {P A B:Prop}(k:A)(l:B)(h:A→B→P:=by intro h1 h2;with_reducible exact And.intro h1 h2):P:=h k l
theorem Wu {X:LH}{v:Value}{l:Bs}(ho:OwB X v l)(n:Int)(k:Nat)(hk8:k≤8)(hl:l.length≤1000000000000)(hk:∀X' v',OwB X' v' (l++beB n k)→K v' I (X'++F)):CT ω 91 #[v,.int .i64 n,.int .i64 (k:Nat)] K I (X++F):=by
 refine AQk ?_;unfold APT;simp only [wrap_i64 ((k:Int) - 1) zo,SSd,Nat.reduceAdd];refine loop (λm st I' L'=>∃(X':LH) (v':Value) (l':Bs),m≤8∧st=(v',Value.int .i64 ((m:Int) - 1),())∧I'=I∧L'=X'++F∧OwB X' v' l'∧l'++beB n m=l++beB n k∧l'.length+m=l.length+k) k ⟨X,v,l,hk8,rfl,rfl,rfl,ho,rfl,rfl⟩ ?_;rintro m st I' L' ⟨X',v',l',hm,rfl,rfl,rfl,ho',he,hle⟩;unfold ADb;try refine zqe ?_
 refine AL (λhb=>?_) (λhb=>?_)
 ·have hm0:1≤m:=by
   have:=of_decide_eq_true hb;omega
  obtain ⟨m,rfl⟩:∃q,m=q+1:=⟨m - 1,by omega⟩;have e1:((m+1:Nat):Int) - 1=(m:Int):=by omega
  simp only [e1,wrap_i64 (8 * (m:Int)) zo,AHi n m zo,SSd,Nat.reduceAdd];rw [←OW];refine Bh rfl zx rfl (λX1 u hX1=>?_);refine BL (X:=X') rfl ho' (hX1.news (λx hx=>zY _ hx)) (λu hu=>?_) zo zo (λX2 v2 hX2=>?_)
  ·rw [zM.1 hu];rfl
  have hX2:OwB X2 v2 (l'++[byI (n.fdiv (2 ^ (8 * m)))]):=OwB.mk hX2;simp only [wrap_i64 ((m:Int) - 1) zo,SSd,Nat.reduceAdd];exact zAE (X2++F) (zAA ⟨m,by omega,X2,v2,_,by omega,rfl,rfl,rfl,hX2,by rw [←he];simp [beB],by rw [zk,List.length_singleton];omega⟩)
 ·have hm0:m=0:=by
   have:=of_decide_eq_false hb;omega
  subst hm0;have e:l'=l++beB n k:=by simpa [beB] using he
  subst e;exact zAA (hk X' v' ho')
theorem MG {X:LH}{v w:Value}{l:Bs}{xs:List Bs}(ho:OwB X v l)(hx:RL StrV 1 I [] w xs)(hx0:xs.length≤1000000000000)(hl:l.length+(txB xs).length≤1000000000000)(hk:∀X' v',OwB X' v' (l++txB xs)→K v' I (X'++F)):CT ω 95 #[v,w] K I (X++F):=by
 refine AQg ?_;unfold APP;simp only [zAK hx,SSd,Nat.reduceAdd];refine loop (λm st I' L'=>∃(k:Nat) (X':LH) (v':Value),k+m=xs.length∧st=(v',Value.int .i64 (k:Nat),())∧I'=I∧L'=X'++F∧OwB X' v' (l++txB (xs.take k))) xs.length ⟨0,X,v,by omega,rfl,rfl,rfl,by simpa [txB] using ho⟩ ?_;rintro m st I' L' ⟨k,X',v',hkm,rfl,rfl,rfl,ho'⟩;unfold ADV;try refine zqe ?_
 refine AL (λhb=>?_) (λhb=>?_)
 ·have hb:k < xs.length:=by
   have:=of_decide_eq_true hb;omega
  obtain ⟨bt,off,c1,g1,gl,g2,g3⟩:=RL.ix hx (i:=k) zo zo;rw [BA hb] at g2;obtain rfl:=g2;have e:txB (xs.take (k+1))=txB (xs.take k)++(xs[k]++[0]):=by
   rw [zf hb,KU,EH]
  have hle:(txB (xs.take (k+1))).length≤(txB xs).length:=by
   have h:=KU (xs.take (k+1)) (xs.drop (k+1));rw [zZ] at h;rw [h,zk];omega
  rw [e] at hle;simp only [zk,List.length_singleton] at hle;simp only [g1,SSd,Nat.reduceAdd];refine rdC (g3 I' [] (zAC _) (λ_ h=>h) 0 _ rfl) (zAC _) ?_;refine BL (X:=X') (n:=1) (m:=xs[k].length) rfl ho' (news:=Lib.byteCells xs[k]) (.inr (.inr ⟨⟨xs[k].toArray⟩,rfl,rfl,rfl,rfl⟩)) (λu hu=>?_) (by rw [zk];omega) (by rw [zk];omega) (λX2 v2 hX2=>?_)
  ·obtain ⟨d,_,rfl⟩:=zaf.1 hu;rfl
  have hX2:OwB X2 v2 (l++txB (xs.take k)++xs[k]):=OwB.mk hX2;refine Bh (v:=.int .u8 0) rfl zx rfl (λX1 u hX1=>?_);refine BL (X:=X2) (L:=X1++(X2++F)) (F:=X1++F) rfl hX2 (hX1.news (λx hx=>zY _ hx)) (λu hu=>?_) (by simp only [zk];omega) (by simp only [zk];omega) (λX3 v3 hX3=>?_)
  ·rw [zM.1 hu];rfl
  have hX3:OwB X3 v3 (l++txB (xs.take (k+1))):=by
   have e2:l++txB (xs.take (k+1))=(l++txB (xs.take k)++xs[k])++[0]:=by rw [e];simp
   rw [e2];exact OwB.mk hX3
  simp only [wrap_i64 ((k:Int)+1) zo,SSd,Nat.reduceAdd];exact zAE (X3++F) (zAA ⟨m - 1,by omega,k+1,X3,v3,by omega,rfl,rfl,rfl,hX3⟩)
 ·have hb:¬k < xs.length:=by
   have:=of_decide_eq_false hb;omega
  have e:xs.take k=xs:=zW zo;rw [e] at ho';exact zAA (hk X' v' ho')
end
def WH:Nat→Nat→Bs→Bs
 |0,_,acc=>acc
 |f+1,n,acc=>if n < 10 then UInt8.ofNat (48+n)::acc else WH f (n / 10) (UInt8.ofNat (48+n % 10)::acc)
def BQ (b:Bool)(n:Int):Bs:=if n < 0 then (if b then 45::WH (n.natAbs+1) n.natAbs [] else [45]) else WH (n.toNat+1) n.toNat []
def ARw (s:Bs):Bool:= !s.isEmpty&& !s.head?.any CG&& !wordsL.contains s&&s.all λc=>(DV c||CG c)&& !(65≤c&&c≤90)
mutual
def AQP:Ex→Ex→Bool
 | .mk k v t n s ty d l,y=>k==y.kind&&v==y.value&&t==y.table&&n==y.name&&s==y.slot&&ty==y.type&&d==y.distinct&&ALD l y.args
def ALD:List Ex→List Ex→Bool
 |[],l=>l.isEmpty
 |x::xs,l=>match l with
  |[]=>false
  |y::ys=>AQP x y&&ALD xs ys
end
abbrev Bc (x:Ex)(v:Value):List Value:=
 [.int .i64 x.kind,.int .i64 x.value.fType,.bool x.value.fNull,.int .i64 x.value.fInt,.string ⟨x.value.fText.toArray⟩,.string ⟨x.table.toArray⟩,.string ⟨x.name.toArray⟩,.int .i64 x.slot,.int .i64 x.type,.bool x.distinct,v]
mutual
def ExV (I:Imm):Ex→List Value→Prop
 | .mk k v t n s ty d l,c=>∃a cap cells,l.length≤cap∧News 11 (.slice a l.length cap) I [] l.length cells∧ExC I l cells∧c=Bc (.mk k v t n s ty d l) (.slice a l.length cap)
def ExC (I:Imm):List Ex→List Value→Prop
 |[],c=>c=[]
 |x::l,c=>(c.take 11).length=11∧ExV I x (c.take 11)∧ExC I l (c.drop 11)
end
theorem ExC.recs {I:Imm}:∀{l:List Ex} {c:List Value},ExC I l c↔Recs (ExV I) 11 l c
 |[],c=>Iff.rfl
 |x::l,c=>by simp only [ExC,Recs,ExC.recs (l:=l)]
theorem ExV.iff {I:Imm}{x:Ex}{c:List Value}:ExV I x c↔∃v,c=Bc x v∧RL ExV 11 I [] v x.args:=by
 obtain ⟨k,v,t,n,s,ty,d,l⟩:=x;simp only [ExV,Ex.args];constructor
 ·rintro ⟨a,cap,cells,h1,h2,h3,rfl⟩;exact ⟨_,rfl,a,cap,cells,rfl,h1,h2,ExC.recs.1 h3⟩
 ·rintro ⟨_,rfl,a,cap,cells,rfl,h1,h2,h3⟩;exact ⟨a,cap,cells,h1,h2,ExC.recs.2 h3,rfl⟩
mutual
theorem ExV.mono {I I':Imm}(hI:Ext I I'):∀{x:Ex} {c:List Value},ExV I x c→ExV I' x c
 | .mk k v t n s ty d l,c,⟨a,cap,cells,h1,h2,h3,h4⟩=>⟨a,cap,cells,h1,h2.mono hI (λ_ h=>h),ExC.mono hI h3,h4⟩
theorem ExC.mono {I I':Imm}(hI:Ext I I'):∀{l:List Ex} {c:List Value},ExC I l c→ExC I' l c
 |[],_,h=>h
 |x::l,_,⟨h1,h2,h3⟩=>⟨h1,ExV.mono hI h2,ExC.mono hI h3⟩
end
theorem ExV.mk {I:Imm}{x:Ex}{v:Value}(h:RL ExV 11 I [] v x.args):ExV I x (Bc x v):=ExV.iff.2 ⟨v,rfl,h⟩
theorem ExV.len {I:Imm}{x:Ex}{c:List Value}(h:ExV I x c):c.length=11:=by
 obtain ⟨v,rfl,_⟩:=ExV.iff.1 h;rfl
theorem ExV.one {I:Imm}{x:Ex}{c:List Value}(h:ExV I x c):∀u∈c,u.oneCell'=true:=by
 obtain ⟨v,rfl,h'⟩:=ExV.iff.1 h;obtain ⟨a,cap,rfl⟩:=zAF h';exact AV rfl
def exZ:List Value:=[.int .i64 0,.int .i64 0,.bool false,.int .i64 0,.string ⟨#[]⟩,.string ⟨#[]⟩,.string ⟨#[]⟩,.int .i64 0,.int .i64 0,.bool false,.slice none 0 0]
abbrev ExL (I:Imm)(v:Value)(l:List Ex):Prop:=RL ExV 11 I [] v l
theorem ExL.mono {I I':Imm}{v:Value}{l:List Ex}(h:ExL I v l)(hI:Ext I I'):ExL I' v l:=zAI (λ_ _ h=>ExV.mono hI h) h hI (λ_ h=>h)
theorem zAH:type_of% @ExL.mono:=@ExL.mono
theorem ExL.k {I:Imm}{v:Value}{l:List Ex}{k:Int}(h:ExL I v l):ExL I v (exK k l).args:=h
abbrev StL (I:Imm)(v:Value)(l:List Bs):Prop:=RL StrV 1 I [] v l
theorem StL.mono {I I':Imm}{v:Value}{l:List Bs}(h:StL I v l)(hI:Ext I I'):StL I' v l:=zAI (λ_ _ h=>StrV.mono h hI) h hI (λ_ h=>h)
theorem LstX.mono {I I':Imm}{x:List Ex}{c:List Value}(h:Lu ExV 11 I x c)(hI:Ext I I'):Lu ExV 11 I' x c:=by
 obtain ⟨v,rfl,h⟩:=h;exact ⟨v,rfl,zAH h hI⟩
def TItemV (I:Imm)(x:TItem)(c:List Value):Prop:=∃v0,c=[.bool x.fStar,.string ⟨x.fTable.toArray⟩,.int .i64 x.fExpr.kind,.int .i64 x.fExpr.value.fType,.bool x.fExpr.value.fNull,.int .i64 x.fExpr.value.fInt,.string ⟨x.fExpr.value.fText.toArray⟩,.string ⟨x.fExpr.table.toArray⟩,.string ⟨x.fExpr.name.toArray⟩,.int .i64 x.fExpr.slot,.int .i64 x.fExpr.type,.bool x.fExpr.distinct,v0,.string ⟨x.fAs.toArray⟩]∧ExL I v0 x.fExpr.args
theorem TItemV.mono {I I':Imm}{x:TItem}{c:List Value}(h:TItemV I x c)(hI:Ext I I'):TItemV I' x c:=by
 obtain ⟨v0,rfl,h0⟩:=h;exact ⟨v0,rfl,zAH h0 hI⟩
theorem TItemV.len {I:Imm}{x:TItem}{c:List Value}(h:TItemV I x c):c.length=14:=by
 obtain ⟨v0,rfl,h0⟩:=h;rfl
theorem TItemV.one {I:Imm}{x:TItem}{c:List Value}(h:TItemV I x c):∀u∈c,u.oneCell'=true:=by
 obtain ⟨v0,rfl,h0⟩:=h;obtain ⟨_,_,rfl⟩:=zAF h0;exact AV rfl
def TSourceV (I:Imm)(x:TSource)(c:List Value):Prop:=∃v0,c=[.string ⟨x.fTable.toArray⟩,.string ⟨x.fAs.toArray⟩,.bool x.fLeft,.int .i64 x.fOn.kind,.int .i64 x.fOn.value.fType,.bool x.fOn.value.fNull,.int .i64 x.fOn.value.fInt,.string ⟨x.fOn.value.fText.toArray⟩,.string ⟨x.fOn.table.toArray⟩,.string ⟨x.fOn.name.toArray⟩,.int .i64 x.fOn.slot,.int .i64 x.fOn.type,.bool x.fOn.distinct,v0]∧ExL I v0 x.fOn.args
theorem TSourceV.mono {I I':Imm}{x:TSource}{c:List Value}(h:TSourceV I x c)(hI:Ext I I'):TSourceV I' x c:=by
 obtain ⟨v0,rfl,h0⟩:=h;exact ⟨v0,rfl,zAH h0 hI⟩
theorem TSourceV.len {I:Imm}{x:TSource}{c:List Value}(h:TSourceV I x c):c.length=14:=by
 obtain ⟨v0,rfl,h0⟩:=h;rfl
def TOrderV (I:Imm)(x:TOrder)(c:List Value):Prop:=∃v0,c=[.int .i64 x.fExpr.kind,.int .i64 x.fExpr.value.fType,.bool x.fExpr.value.fNull,.int .i64 x.fExpr.value.fInt,.string ⟨x.fExpr.value.fText.toArray⟩,.string ⟨x.fExpr.table.toArray⟩,.string ⟨x.fExpr.name.toArray⟩,.int .i64 x.fExpr.slot,.int .i64 x.fExpr.type,.bool x.fExpr.distinct,v0,.bool x.fDesc]∧ExL I v0 x.fExpr.args
theorem TOrderV.mono {I I':Imm}{x:TOrder}{c:List Value}(h:TOrderV I x c)(hI:Ext I I'):TOrderV I' x c:=by
 obtain ⟨v0,rfl,h0⟩:=h;exact ⟨v0,rfl,zAH h0 hI⟩
theorem TOrderV.len {I:Imm}{x:TOrder}{c:List Value}(h:TOrderV I x c):c.length=12:=by
 obtain ⟨v0,rfl,h0⟩:=h;rfl
theorem TOrderV.one {I:Imm}{x:TOrder}{c:List Value}(h:TOrderV I x c):∀u∈c,u.oneCell'=true:=by
 obtain ⟨v0,rfl,h0⟩:=h;obtain ⟨_,_,rfl⟩:=zAF h0;exact AV rfl
def CX (I:Imm)(x:TSelect)(c:List Value):Prop:=∃v0 v1 v2 v3 v4 v5,c=[.bool x.fDistinct,v0,v1,.int .i64 x.fWhere.kind,.int .i64 x.fWhere.value.fType,.bool x.fWhere.value.fNull,.int .i64 x.fWhere.value.fInt,.string ⟨x.fWhere.value.fText.toArray⟩,.string ⟨x.fWhere.table.toArray⟩,.string ⟨x.fWhere.name.toArray⟩,.int .i64 x.fWhere.slot,.int .i64 x.fWhere.type,.bool x.fWhere.distinct,v2,v3,.int .i64 x.fHaving.kind,.int .i64 x.fHaving.value.fType,.bool x.fHaving.value.fNull,.int .i64 x.fHaving.value.fInt,.string ⟨x.fHaving.value.fText.toArray⟩,.string ⟨x.fHaving.table.toArray⟩,.string ⟨x.fHaving.name.toArray⟩,.int .i64 x.fHaving.slot,.int .i64 x.fHaving.type,.bool x.fHaving.distinct,v4,v5,.int .i64 x.fLimit,.int .i64 x.fOffset]∧RL TItemV 14 I [] v0 x.fItems∧RL TSourceV 14 I [] v1 x.fFrom∧ExL I v2 x.fWhere.args∧RL ExV 11 I [] v3 x.fGroup∧ExL I v4 x.fHaving.args∧RL TOrderV 12 I [] v5 x.fOrder
def TSetV (I:Imm)(x:TSet)(c:List Value):Prop:=∃v0,c=[.string ⟨x.fColumn.toArray⟩,.int .i64 x.fExpr.kind,.int .i64 x.fExpr.value.fType,.bool x.fExpr.value.fNull,.int .i64 x.fExpr.value.fInt,.string ⟨x.fExpr.value.fText.toArray⟩,.string ⟨x.fExpr.table.toArray⟩,.string ⟨x.fExpr.name.toArray⟩,.int .i64 x.fExpr.slot,.int .i64 x.fExpr.type,.bool x.fExpr.distinct,v0]∧ExL I v0 x.fExpr.args
theorem TSetV.mono {I I':Imm}{x:TSet}{c:List Value}(h:TSetV I x c)(hI:Ext I I'):TSetV I' x c:=by
 obtain ⟨v0,rfl,h0⟩:=h;exact ⟨v0,rfl,zAH h0 hI⟩
theorem TSetV.len {I:Imm}{x:TSet}{c:List Value}(h:TSetV I x c):c.length=12:=by
 obtain ⟨v0,rfl,h0⟩:=h;rfl
theorem TSetV.one {I:Imm}{x:TSet}{c:List Value}(h:TSetV I x c):∀u∈c,u.oneCell'=true:=by
 obtain ⟨v0,rfl,h0⟩:=h;obtain ⟨_,_,rfl⟩:=zAF h0;exact AV rfl
def TColV (I:Imm)(x:TCol)(c:List Value):Prop:=∃v0,c=[.string ⟨x.fName.toArray⟩,.int .i64 x.fType,.bool x.fNotNull,.bool x.fKey,.bool x.fUnique,.int .i64 x.fDefault.kind,.int .i64 x.fDefault.value.fType,.bool x.fDefault.value.fNull,.int .i64 x.fDefault.value.fInt,.string ⟨x.fDefault.value.fText.toArray⟩,.string ⟨x.fDefault.table.toArray⟩,.string ⟨x.fDefault.name.toArray⟩,.int .i64 x.fDefault.slot,.int .i64 x.fDefault.type,.bool x.fDefault.distinct,v0]∧ExL I v0 x.fDefault.args
theorem TColV.mono {I I':Imm}{x:TCol}{c:List Value}(h:TColV I x c)(hI:Ext I I'):TColV I' x c:=by
 obtain ⟨v0,rfl,h0⟩:=h;exact ⟨v0,rfl,zAH h0 hI⟩
theorem TColV.len {I:Imm}{x:TCol}{c:List Value}(h:TColV I x c):c.length=16:=by
 obtain ⟨v0,rfl,h0⟩:=h;rfl
theorem TColV.one {I:Imm}{x:TCol}{c:List Value}(h:TColV I x c):∀u∈c,u.oneCell'=true:=by
 obtain ⟨v0,rfl,h0⟩:=h;obtain ⟨_,_,rfl⟩:=zAF h0;exact AV rfl
def TStmtV (I:Imm)(x:TStmt)(c:List Value):Prop:=∃v0 v1 v2 v3 v4 v5 v6 v7 v8 v9 v10 v11 v12,c=[.int .i64 x.fKind,.bool x.fSelect.fDistinct,v0,v1,.int .i64 x.fSelect.fWhere.kind,.int .i64 x.fSelect.fWhere.value.fType,.bool x.fSelect.fWhere.value.fNull,.int .i64 x.fSelect.fWhere.value.fInt,.string ⟨x.fSelect.fWhere.value.fText.toArray⟩,.string ⟨x.fSelect.fWhere.table.toArray⟩,.string ⟨x.fSelect.fWhere.name.toArray⟩,.int .i64 x.fSelect.fWhere.slot,.int .i64 x.fSelect.fWhere.type,.bool x.fSelect.fWhere.distinct,v2,v3,.int .i64 x.fSelect.fHaving.kind,.int .i64 x.fSelect.fHaving.value.fType,.bool x.fSelect.fHaving.value.fNull,.int .i64 x.fSelect.fHaving.value.fInt,.string ⟨x.fSelect.fHaving.value.fText.toArray⟩,.string ⟨x.fSelect.fHaving.table.toArray⟩,.string ⟨x.fSelect.fHaving.name.toArray⟩,.int .i64 x.fSelect.fHaving.slot,.int .i64 x.fSelect.fHaving.type,.bool x.fSelect.fHaving.distinct,v4,v5,.int .i64 x.fSelect.fLimit,.int .i64 x.fSelect.fOffset,.string ⟨x.fTable.toArray⟩,v6,v7,v8,.int .i64 x.fWhere.kind,.int .i64 x.fWhere.value.fType,.bool x.fWhere.value.fNull,.int .i64 x.fWhere.value.fInt,.string ⟨x.fWhere.value.fText.toArray⟩,.string ⟨x.fWhere.table.toArray⟩,.string ⟨x.fWhere.name.toArray⟩,.int .i64 x.fWhere.slot,.int .i64 x.fWhere.type,.bool x.fWhere.distinct,v9,v10,v11,.string ⟨x.fIndex.fName.toArray⟩,.string ⟨x.fIndex.fTable.toArray⟩,v12,.bool x.fIndex.fUnique]∧RL TItemV 14 I [] v0 x.fSelect.fItems∧RL TSourceV 14 I [] v1 x.fSelect.fFrom∧ExL I v2 x.fSelect.fWhere.args∧RL ExV 11 I [] v3 x.fSelect.fGroup∧ExL I v4 x.fSelect.fHaving.args∧RL TOrderV 12 I [] v5 x.fSelect.fOrder∧RL StrV 1 I [] v6 x.fColumns∧RL (Lu ExV 11) 1 I [] v7 x.fRows∧RL TSetV 12 I [] v8 x.fSets∧ExL I v9 x.fWhere.args∧RL TColV 16 I [] v10 x.fCols∧RL StrV 1 I [] v11 x.fKey∧RL StrV 1 I [] v12 x.fIndex.fColumns
theorem TStmtV.mono {I I':Imm}{x:TStmt}{c:List Value}(h:TStmtV I x c)(hI:Ext I I'):TStmtV I' x c:=by
 obtain ⟨v0,v1,v2,v3,v4,v5,v6,v7,v8,v9,v10,v11,v12,rfl,h0,h1,h2,h3,h4,h5,h6,h7,h8,h9,h10,h11,h12⟩:=h;exact ⟨v0,v1,v2,v3,v4,v5,v6,v7,v8,v9,v10,v11,v12,rfl,zAI (λ_ _ h=>TItemV.mono h hI) h0 hI (λ_ h=>by cases h),zAI (λ_ _ h=>TSourceV.mono h hI) h1 hI (λ_ h=>by cases h),zAH h2 hI,zAI (λ_ _ h=>ExV.mono hI h) h3 hI (λ_ h=>by cases h),zAH h4 hI,zAI (λ_ _ h=>TOrderV.mono h hI) h5 hI (λ_ h=>by cases h),zAI (λ_ _ h=>StrV.mono h hI) h6 hI (λ_ h=>by cases h),zAI (λ_ _ h=>LstX.mono h hI) h7 hI (λ_ h=>by cases h),zAI (λ_ _ h=>TSetV.mono h hI) h8 hI (λ_ h=>by cases h),zAH h9 hI,zAI (λ_ _ h=>TColV.mono h hI) h10 hI (λ_ h=>by cases h),zAI (λ_ _ h=>StrV.mono h hI) h11 hI (λ_ h=>by cases h),zAI (λ_ _ h=>StrV.mono h hI) h12 hI (λ_ h=>by cases h)⟩
theorem TStmtV.len {I:Imm}{x:TStmt}{c:List Value}(h:TStmtV I x c):c.length=51:=by
 obtain ⟨v0,v1,v2,v3,v4,v5,v6,v7,v8,v9,v10,v11,v12,rfl,h0,h1,h2,h3,h4,h5,h6,h7,h8,h9,h10,h11,h12⟩:=h;rfl
theorem TStmtV.one {I:Imm}{x:TStmt}{c:List Value}(h:TStmtV I x c):∀u∈c,u.oneCell'=true:=by
 obtain ⟨v0,v1,v2,v3,v4,v5,v6,v7,v8,v9,v10,v11,v12,rfl,h0,h1,h2,h3,h4,h5,h6,h7,h8,h9,h10,h11,h12⟩:=h;obtain ⟨_,_,rfl⟩:=zAF h0;obtain ⟨_,_,rfl⟩:=zAF h1;obtain ⟨_,_,rfl⟩:=zAF h2;obtain ⟨_,_,rfl⟩:=zAF h3;obtain ⟨_,_,rfl⟩:=zAF h4;obtain ⟨_,_,rfl⟩:=zAF h5;obtain ⟨_,_,rfl⟩:=zAF h6;obtain ⟨_,_,rfl⟩:=zAF h7;obtain ⟨_,_,rfl⟩:=zAF h8;obtain ⟨_,_,rfl⟩:=zAF h9;obtain ⟨_,_,rfl⟩:=zAF h10;obtain ⟨_,_,rfl⟩:=zAF h11;obtain ⟨_,_,rfl⟩:=zAF h12;exact AV rfl
end Go.Proofs.YthkaekjoemhjaaaGreatDoor
namespace Go.SL
def Qj:Nat→List Value→List (Nat×Value)
 |_,[]=>[]
 |i,v::r=>(i,v)::Qj (i+1) r
theorem AAw:∀(vs:List Value) (cs:Array Value) (off k:Nat),off+k+vs.length≤cs.size→(vs.zipIdx k).foldl (λcs (c,j)=>cs.setIfInBounds (off+j) c) cs=wr cs (off+k) vs
 |[],cs,off,k,_=>rfl
 |v::vs,cs,off,k,h=>by
  simp only [List.zipIdx_cons,List.foldl_cons,wr];simp only [zi] at h;exact AAw vs (cs.setIfInBounds (off+k) v) off (k+1) zu
theorem WE {n:Nat}:∀(vs:List Value) (k:Nat) (cells:Array Value),(∀v∈vs,v.cells.size=n)→(k+vs.length) * n≤cells.size→
  ∃r,Instr.fill (λi=>some (i * n,n)) cells (Qj k vs)=some r∧r.toList=cells.toList.take (k * n)++vs.flatMap (·.cells.toList)++cells.toList.drop ((k+vs.length) * n)
 |[],k,cells,_,h=>⟨cells,rfl,by simp⟩
 |v::vs,k,cells,hv,h=>by
  have hv0:=hv v (zJ ..);simp only [zi] at h;have e1:(k+1) * n=k * n+n:=by rw [zax,Nat.one_mul]
  have e2:(k+(vs.length+1)) * n=(k+1+vs.length) * n:=by congr 1;omega
  have e3:(k+1) * n≤(k+1+vs.length) * n:=zay n zo;have hsz:k * n+v.cells.size≤cells.size:=by omega
  simp only [Qj,Instr.fill];rw [if_neg (by simp [hv0];omega)];have hf:v.cells.zipIdx.foldl (λcs (c,j)=>cs.setIfInBounds (k * n+j) c) cells=wr cells (k * n) v.cells.toList:=by
   rw [←Array.foldl_toList];simp only [Array.toList_zipIdx];exact AAw v.cells.toList cells (k * n) 0 zu
  rw [hf];obtain ⟨r,h1,h2⟩:=WE vs (k+1) (wr cells (k * n) v.cells.toList) (λu hu=>hv u (zV _ hu)) (by rw [Nu];omega);refine ⟨r,h1,?_⟩;rw [h2,Oa _ _ _ zu];have hlt:(cells.toList.take (k * n)).length=k * n:=by rw [zai,Array.length_toList];omega
  have hvl:v.cells.toList.length=n:=by rw [Array.length_toList,hv0]
  have e4:k * n+n≤(k+1+vs.length) * n:=by omega
  have e5:(k+(vs.length+1)) * n=(k+1+vs.length) * n:=e2;rw [hvl];simp only [List.toList_toArray,zaH,zi,e5,e1];have a1:(cells.toList.take (k * n)++v.cells.toList++cells.toList.drop (k * n+n)).take (k * n+n)=cells.toList.take (k * n)++v.cells.toList:=by
   rw [List.take_append_of_le_length (by rw [zk,hlt,hvl];exact zh _),zW (by rw [zk,hlt,hvl];exact zh _)]
  have a2:(cells.toList.take (k * n)++v.cells.toList++cells.toList.drop (k * n+n)).drop ((k+1+vs.length) * n)=cells.toList.drop ((k+1+vs.length) * n):=by
   rw [List.drop_append,zan (by rw [zk,hlt,hvl];exact e4),zaF,zbs,zk,hlt,hvl];congr 1
   omega
  rw [a1,a2];simp only [zt]
section
variable {I:Imm}{F:LH}{T n len:Nat}{z:Array Value}{parts:List (Nat×Value)}{K:Value→M}
theorem AGM (vs:List Value)(hp:parts=Qj 0 vs)(hl:vs.length=len)(hv:∀v∈vs,v.cells.size=n)
  (hk:∀X a,SlO T n X (.slice a len len) (vs.flatMap (·.cells.toList)) len→Gh (K (.slice a len len)) I (X++F)):AC T n z len parts (gh K) I F:=by
 subst hp hl;obtain ⟨r,h1,h2⟩:=WE vs 0 ((Array.range (vs.length * n)).map (z[· % z.size]!)) hv zy;have h2:r=(vs.flatMap (·.cells.toList)).toArray:=by
  apply Array.ext'
  rw [h2];simp only [Nat.zero_mul,List.take_zero,zaF,zaS];rw [zan zy,zaK]
 subst h2;have hlen:(vs.flatMap (·.cells.toList)).length=vs.length * n:=by
  clear h1 h2 hk;induction vs with
  |nil=>simp
  |cons v vs ih=>
   have h0:=ih (λu hu=>hv u (zV _ hu));rw [zaH,zk,Array.length_toList,hv v (zJ ..),h0,zi,zax,Nat.one_mul,Nat.add_comm]
 refine ⟨_,h1,λb=>?_⟩;exact hk [(b,_)] _ ⟨hlen,.inr ⟨b,vs.length,_,rfl,rfl,by simp [hlen],zh _,λj u hu=>by simpa using hu⟩⟩
theorem Lh (vs:List Value)(hp:parts=Qj 0 vs)(hl:vs.length=len)(hv:∀v∈vs,v.cells.size=n)
  (hk:∀I' a,Ext I I'→SlI I' n (.slice a len len) (vs.flatMap (·.cells.toList)) len→Gh (K (.slice a len len)) I' F):AC T n z len parts (gh K) I F:=
 AGM vs hp hl hv λX a h=>SlO.freeze h λI' hI hS=>hk I' a hI hS
end
end Go.SL
