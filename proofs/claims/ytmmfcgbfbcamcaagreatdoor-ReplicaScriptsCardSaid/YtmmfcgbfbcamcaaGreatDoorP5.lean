/-
  Lemmas, part 5: laid together by a program.
-/
import Derived.Test.YtmmfcgbfbcamcaaGreatDoorP4
import Derived.Test.YtmmfcgbfbcamcaaGreatDoorP2
import GoSem.ClaimJoined
import Derived.Below
import Derived.WideShapes
import Derived.Lib.Overlaps
set_option maxRecDepth 100000
set_option linter.unusedVariables false
set_option linter.unusedSimpArgs false
set_option linter.unusedSectionVars false
namespace Go.Proofs.YtmmfcgbfbcamcaaGreatDoor
open Go.SL
def YP (ω:Om)(a0 a1:Value)(K:Value→M):M:=New (.cells (Value.cells a1) 56 (0,0))<|gh fun c_1=>Pv (AA 1 c_1) fun v2=>Rn (AB v2) fun v3=>CT ω 173 #[a0,v3]<|gh fun v4=>Pv (AC .geq v4 I0) fun v5=>Br v5 (K v4) (Pv (AA 1 c_1) fun v6=>Rn (AB v6) fun v7=>Pv (AA 3 c_1) fun v8=>Rn (AF 2 v8) fun v9=>Pv (AW Zl Zo [(0,v7),(1,(.int .i64 3)),(2,v9)]) fun v10=>CT ω 174 #[a0,v10]<|gh fun v11=>Pv (unV .not v11) fun v12=>Br v12 (K (.int .i64 (-1))) (Pv (AA 1 c_1) fun v13=>Rn (AB v13) fun v14=>CT ω 173 #[a0,v14]<|gh fun v15=>K v15))
theorem YO (ω:Om)(a0 a1:Value)(K:Value→M):vcF Tryz.prog ω Tryz.f175 [a0,a1] K=YP ω a0 a1 K:=by kernel_rfl
variable {ω:Om}{K:Value→M}{I:Imm}{L:LH}{a0 a1 a2 a3 a4 a5 a6 a7 a8:Value}
theorem AHw (h:YP ω a0 a1 (fun v=>Gh (K v)) I L):CT ω 175 #[a0,a1] K I L:=Cal.gh (AG mixed Tryz.func175 (by rw [YO];exact h))
def EP (ω:Om)(p21 p22:Value)(Kn0:(Value×Value×Unit)→M)(K:Value→M):M:=Pv (AC .add p22 (.int .i64 1)) fun v51=>Kn0 (p21,v51,())
def Fb (ω:Om)(p0 p21 p22:Value)(Kn0:(Value×Value×Unit)→M)(K:Value→M):M:=Pv (AJ p0) fun v44=>Pv (AA 1 v44) fun v45=>Rn (AB v45) fun v46=>Pv (ixV 6 v46 p22) fun v47=>Rn (AF 6 v47) fun v48=>Ay 190 6 Zf 1 [(0,v48)]<|gh fun v49=>App 190 6 80 Zf p21 v49<|gh fun v50=>EP ω v50 p22 Kn0 K
def FK (ω:Om)(p0 p23:Value)(p24 p25:Value)(Kn1:(Value×Value×Value×Unit)→M)(K:Value→M):M:=Pv (AJ p0) fun v78=>Pv (AA 0 v78) fun v79=>Rn (AB v79) fun v80=>Pv (ixV 5 v80 p25) fun v81=>Rn (AF 5 v81) fun v82=>Ay 188 5 Zd 1 [(0,v82)]<|gh fun v83=>App 188 5 72 Zd p23 v83<|gh fun v84=>Pv (AC .add p25 (.int .i64 1)) fun v85=>Kn1 (v84,p24,v85,())
def Oy (ω:Om)(p0 p1:Value)(p9 p15:Value)(p23 p24 p25:Value)(Kn1:(Value×Value×Value×Unit)→M)(K:Value→M):M:=Rn (AF 2 p9) fun v70=>Pv (AA 4 p15) fun v71=>Rn (AB v71) fun v72=>Pv (AA 5 p15) fun v73=>Rn (AB v73) fun v74=>Pv (AW Zd Zv [(0,p1),(1,v70),(2,v72),(3,v74)]) fun v75=>Ay 188 5 Zd 1 [(0,v75)]<|gh fun v76=>App 188 5 72 Zd p23 v76<|gh fun v77=>FK ω p0 v77 (.bool true) p25 Kn1 K
def Hm (ω:Om)(p0 p10:Value)(p11 p23:Value)(K:Value→M):M:=Pv (AJ p0) fun v95=>Pv (AA 0 v95) fun v96=>Sto 1 v96 p23<|gh fun _=>K (Value.tuple Zp)
def Ox (ω:Om)(p0 p1:Value)(p9 p10:Value)(p11 p15:Value)(p23 p24:Value)(K:Value→M):M:=Pv (unV .not p24) fun v86=>Br v86 (Rn (AF 2 p9) fun v87=>Pv (AA 4 p15) fun v88=>Rn (AB v88) fun v89=>Pv (AA 5 p15) fun v90=>Rn (AB v90) fun v91=>Pv (AW Zd Zv [(0,p1),(1,v87),(2,v89),(3,v91)]) fun v92=>Ay 188 5 Zd 1 [(0,v92)]<|gh fun v93=>App 188 5 72 Zd p23 v93<|gh fun v94=>Hm ω p0 p10 p11 v94 K) (Hm ω p0 p10 p11 p23 K)
def KU (ω:Om)(p0 p1:Value)(p9 p10:Value)(p11 p15:Value)(x23 x24 x25:Value)(Kn1:(Value×Value×Value×Unit)→M)(K:Value→M):M:=Pv (AJ p0) fun v55=>Pv (AA 0 v55) fun v56=>Rn (AB v56) fun v57=>Pv (lenV v57) fun v58=>Pv (AC .lss x25 v58) fun v59=>Br v59 (Ac fun S=>Pv (unV .not x24) fun v60=>Gd v60 true (Pv (AJ p0) fun v61=>Pv (AA 0 v61) fun v62=>Rs S (AB v62) fun v63=>Pv (ixV 5 v63 x25) fun v64=>Pv (AA 0 v64) fun v65=>Rs S (AB v65) fun v66=>Rs S (bsR v66) fun v67=>Rs S (bsR p1) fun v68=>Pv (Ao .gtr v67 v68) fun v69=>Br v69 (Oy ω p0 p1 p9 p15 x23 x24 x25 Kn1 K) (FK ω p0 x23 x24 x25 Kn1 K)) (FK ω p0 x23 x24 x25 Kn1 K)) (Ox ω p0 p1 p9 p10 p11 p15 x23 x24 K)
def Fa (ω:Om)(p0 p1:Value)(p3 p9:Value)(p10 p11:Value)(p15 p21:Value)(K:Value→M):M:=Pv (AJ p0) fun v52=>Pv (AA 1 v52) fun v53=>Sto 1 v53 p21<|gh fun _=>Pv (unV .not p3) fun v54=>Br v54 (K (Value.tuple Zp)) (Aj ((S0,(.bool false),I0,()):Value×Value×Value×Unit) fun s Kn1=>KU ω p0 p1 p9 p10 p11 p15 s.1 s.2.1 s.2.2.1 Kn1 K)
def EQ (ω:Om)(p0 p1:Value)(p3 p9:Value)(p10 p11:Value)(p15 x21 x22:Value)(Kn0:(Value×Value×Unit)→M)(K:Value→M):M:=Pv (AJ p0) fun v30=>Pv (AA 1 v30) fun v31=>Rn (AB v31) fun v32=>Pv (lenV v32) fun v33=>Pv (AC .lss x22 v33) fun v34=>Br v34 (Ac fun S=>Pv (AJ p0) fun v35=>Pv (AA 1 v35) fun v36=>Rs S (AB v36) fun v37=>Pv (ixV 6 v37 x22) fun v38=>Pv (AA 0 v38) fun v39=>Rs S (AB v39) fun v40=>Rs S (bsR v40) fun v41=>Rs S (bsR p1) fun v42=>Pv (Ao .neq v41 v42) fun v43=>Br v43 (Fb ω p0 x21 x22 Kn0 K) (EP ω x21 x22 Kn0 K)) (Fa ω p0 p1 p3 p9 p10 p11 p15 x21 K)
def Ow (ω:Om)(p0 p1:Value)(p3 p9:Value)(p10 p11:Value)(p15 x21 x22:Value)(Kn0:(Value×Value×Unit)→M)(K:Value→M):M:=Pv (AJ p0) fun v97=>Pv (AA 1 v97) fun v98=>Rn (AB v98) fun v99=>Pv (lenV v99) fun v100=>Pv (AC .lss x22 v100) fun v101=>Br v101 (Ac fun S=>Pv (AJ p0) fun v102=>Pv (AA 1 v102) fun v103=>Rs S (AB v103) fun v104=>Pv (ixV 6 v104 x22) fun v105=>Pv (AA 0 v105) fun v106=>Rs S (AB v106) fun v107=>Rs S (bsR v107) fun v108=>Rs S (bsR p1) fun v109=>Pv (Ao .neq v108 v109) fun v110=>Br v110 (Fb ω p0 x21 x22 Kn0 K) (EP ω x21 x22 Kn0 K)) (Fa ω p0 p1 p3 p9 p10 p11 p15 x21 K)
def YN (ω:Om)(p0 p1:Value)(p3 p9:Value)(p10 p11:Value)(p15 x21 x22:Value)(Kn0:(Value×Value×Unit)→M)(K:Value→M):M:=Pv (AJ p0) fun v111=>Pv (AA 1 v111) fun v112=>Rn (AB v112) fun v113=>Pv (lenV v113) fun v114=>Pv (AC .lss x22 v114) fun v115=>Br v115 (Ac fun S=>Pv (AJ p0) fun v116=>Pv (AA 1 v116) fun v117=>Rs S (AB v117) fun v118=>Pv (ixV 6 v118 x22) fun v119=>Pv (AA 0 v119) fun v120=>Rs S (AB v120) fun v121=>Rs S (bsR v121) fun v122=>Rs S (bsR p1) fun v123=>Pv (Ao .neq v122 v123) fun v124=>Br v124 (Fb ω p0 x21 x22 Kn0 K) (EP ω x21 x22 Kn0 K)) (Fa ω p0 p1 p3 p9 p10 p11 p15 x21 K)
def YM (ω:Om)(p0 p1:Value)(p3 p9:Value)(p10 p11:Value)(p15 x21 x22:Value)(Kn0:(Value×Value×Unit)→M)(K:Value→M):M:=Pv (AJ p0) fun v146=>Pv (AA 1 v146) fun v147=>Rn (AB v147) fun v148=>Pv (lenV v148) fun v149=>Pv (AC .lss x22 v149) fun v150=>Br v150 (Ac fun S=>Pv (AJ p0) fun v151=>Pv (AA 1 v151) fun v152=>Rs S (AB v152) fun v153=>Pv (ixV 6 v153 x22) fun v154=>Pv (AA 0 v154) fun v155=>Rs S (AB v155) fun v156=>Rs S (bsR v156) fun v157=>Rs S (bsR p1) fun v158=>Pv (Ao .neq v157 v158) fun v159=>Br v159 (Fb ω p0 x21 x22 Kn0 K) (EP ω x21 x22 Kn0 K)) (Fa ω p0 p1 p3 p9 p10 p11 p15 x21 K)
def YL (ω:Om)(p0 p1:Value)(p3 p9:Value)(p10 p11:Value)(p15 x21 x22:Value)(Kn0:(Value×Value×Unit)→M)(K:Value→M):M:=Pv (AJ p0) fun v160=>Pv (AA 1 v160) fun v161=>Rn (AB v161) fun v162=>Pv (lenV v162) fun v163=>Pv (AC .lss x22 v163) fun v164=>Br v164 (Ac fun S=>Pv (AJ p0) fun v165=>Pv (AA 1 v165) fun v166=>Rs S (AB v166) fun v167=>Pv (ixV 6 v167 x22) fun v168=>Pv (AA 0 v168) fun v169=>Rs S (AB v169) fun v170=>Rs S (bsR v170) fun v171=>Rs S (bsR p1) fun v172=>Pv (Ao .neq v171 v172) fun v173=>Br v173 (Fb ω p0 x21 x22 Kn0 K) (EP ω x21 x22 Kn0 K)) (Fa ω p0 p1 p3 p9 p10 p11 p15 x21 K)
def Ov (ω:Om)(p0 p1:Value)(p3 p9:Value)(p10 p11:Value)(p15 x21 x22:Value)(Kn0:(Value×Value×Unit)→M)(K:Value→M):M:=Pv (AJ p0) fun v174=>Pv (AA 1 v174) fun v175=>Rn (AB v175) fun v176=>Pv (lenV v176) fun v177=>Pv (AC .lss x22 v177) fun v178=>Br v178 (Ac fun S=>Pv (AJ p0) fun v179=>Pv (AA 1 v179) fun v180=>Rs S (AB v180) fun v181=>Pv (ixV 6 v181 x22) fun v182=>Pv (AA 0 v182) fun v183=>Rs S (AB v183) fun v184=>Rs S (bsR v184) fun v185=>Rs S (bsR p1) fun v186=>Pv (Ao .neq v185 v186) fun v187=>Br v187 (Fb ω p0 x21 x22 Kn0 K) (EP ω x21 x22 Kn0 K)) (Fa ω p0 p1 p3 p9 p10 p11 p15 x21 K)
def Sz (ω:Om)(a0 a1:Value)(a2 a3 a4:Value)(K:Value→M):M:=New (.cells (Value.cells a4) 41 (0,0))<|gh fun at_1=>CT ω 68 #[a1]<|gh fun v2=>CT ω 123 #[a2]<|gh fun v3=>Rn (AF 2 at_1) fun v4=>CT ω 66 #[v4]<|gh fun v5=>Pv (unV .not v2) fun v6=>Gd v6 false (Pv (unV .not v3) fun v7=>Gd v7 false (Gd a3 true (Pv (unV .not v5) fun v8=>Br v8 (K (Value.tuple Zk)) (CT ω 166 #[a0,a1]<|gh fun v9=>Pv (exV v9 0) fun v10=>Pv (exV v9 1) fun v11=>New (.cells Zf 190 (0,0))<|gh fun x_12=>Sto 6 x_12 v10<|gh fun _=>Pv (unV .not v11) fun v13=>Gd v13 false (Pv (AA 1 x_12) fun v14=>Rn (AB v14) fun v15=>Pv (AC .neq v15 a2) fun v16=>Br v16 (K (Value.tuple Zn)) (Pv (AA 2 x_12) fun v17=>Rn (AF 2 v17) fun v18=>Rn (AF 2 at_1) fun v19=>CT ω 109 #[v18,v19]<|gh fun v20=>CT ω 227 #[a0,a1]<|gh fun v21=>Pv (exV v21 0) fun v22=>Pv (exV v21 1) fun v23=>New (.cells Zd 188 (0,0))<|gh fun v_24=>Sto 5 v_24 v22<|gh fun _=>Rn (AF 2 at_1) fun v25=>Pv (AA 1 v_24) fun v26=>Rn (AF 2 v26) fun v27=>CT ω 109 #[v25,v27]<|gh fun v28=>Gd a3 true (Gd v20 false (Gd v23 true (Pv (unV .not v28) fun v29=>Br v29 (K (Value.tuple Zk)) (Aj ((S0,I0,()):Value×Value×Unit) fun s Kn0=>EQ ω a0 a1 a3 at_1 (.bool false) I0 x_12 s.1 s.2.1 Kn0 K)) (Aj ((S0,I0,()):Value×Value×Unit) fun s Kn0=>Ow ω a0 a1 a3 at_1 (.bool false) I0 x_12 s.1 s.2.1 Kn0 K)) (K (Value.tuple Zk))) (Aj ((S0,I0,()):Value×Value×Unit) fun s Kn0=>YN ω a0 a1 a3 at_1 (.bool false) I0 x_12 s.1 s.2.1 Kn0 K))) (K (Value.tuple Zn)))) (CT ω 166 #[a0,a1]<|gh fun v125=>Pv (exV v125 0) fun v126=>Pv (exV v125 1) fun v127=>New (.cells Zf 190 (0,0))<|gh fun x_128=>Sto 6 x_128 v126<|gh fun _=>Pv (unV .not v127) fun v129=>Gd v129 false (Pv (AA 1 x_128) fun v130=>Rn (AB v130) fun v131=>Pv (AC .neq v131 a2) fun v132=>Br v132 (K (Value.tuple Zn)) (Pv (AA 2 x_128) fun v133=>Rn (AF 2 v133) fun v134=>Rn (AF 2 at_1) fun v135=>CT ω 109 #[v134,v135]<|gh fun v136=>CT ω 227 #[a0,a1]<|gh fun v137=>Pv (exV v137 0) fun v138=>Pv (exV v137 1) fun v139=>New (.cells Zd 188 (0,0))<|gh fun v_140=>Sto 5 v_140 v138<|gh fun _=>Rn (AF 2 at_1) fun v141=>Pv (AA 1 v_140) fun v142=>Rn (AF 2 v142) fun v143=>CT ω 109 #[v141,v143]<|gh fun v144=>Gd a3 true (Gd v136 false (Gd v139 true (Pv (unV .not v144) fun v145=>Br v145 (K (Value.tuple Zk)) (Aj ((S0,I0,()):Value×Value×Unit) fun s Kn0=>YM ω a0 a1 a3 at_1 (.bool false) I0 x_128 s.1 s.2.1 Kn0 K)) (Aj ((S0,I0,()):Value×Value×Unit) fun s Kn0=>YL ω a0 a1 a3 at_1 (.bool false) I0 x_128 s.1 s.2.1 Kn0 K)) (K (Value.tuple Zk))) (Aj ((S0,I0,()):Value×Value×Unit) fun s Kn0=>Ov ω a0 a1 a3 at_1 (.bool false) I0 x_128 s.1 s.2.1 Kn0 K))) (K (Value.tuple Zn)))) (K (Value.tuple Zk))) (K (Value.tuple Zk))
theorem YK (ω:Om)(a0 a1 a2 a3 a4:Value)(K:Value→M):vcF Tryz.prog ω Tryz.f176 [a0,a1,a2,a3,a4] K=Sz ω a0 a1 a2 a3 a4 K:=by kernel_rfl
theorem ACF (h:Sz ω a0 a1 a2 a3 a4 (fun v=>Gh (K v)) I L):CT ω 176 #[a0,a1,a2,a3,a4] K I L:=Cal.gh (AG mixed Tryz.func176 (by rw [YK];exact h))
def YJ (ω:Om)(a0 a1:Value)(K:Value→M):M:=New (.cells (Value.cells a0) 99 (0,0))<|gh fun s_1=>New (.cells (Value.cells a1) 31 (0,0))<|gh fun p_2=>K (Value.func (Fn.func 229) #[] #[s_1,p_2])
theorem YI (ω:Om)(a0 a1:Value)(K:Value→M):vcF Tryz.prog ω Tryz.f177 [a0,a1] K=YJ ω a0 a1 K:=by kernel_rfl
theorem AHv (h:YJ ω a0 a1 (fun v=>Gh (K v)) I L):CT ω 177 #[a0,a1] K I L:=Cal.gh (AG mixed Tryz.func177 (by rw [YI];exact h))
def YH (ω:Om)(a0:Value)(K:Value→M):M:=Pv (lenV a0) fun v1=>Pv (lenV a0) fun v2=>Pv (BL 1 a0 none (some v1) (some v2)) fun v3=>K v3
theorem YG (ω:Om)(a0:Value)(K:Value→M):vcF Tryz.prog ω Tryz.f178 [a0] K=YH ω a0 K:=by kernel_rfl
theorem AHu (h:YH ω a0 (fun v=>Gh (K v)) I L):CT ω 178 #[a0] K I L:=Cal.gh (AG mixed Tryz.func178 (by rw [YG];exact h))
def YF (ω:Om)(a0:Value)(K:Value→M):M:=CT ω 230 #[S0,a0]<|gh fun v1=>K v1
theorem YE (ω:Om)(a0:Value)(K:Value→M):vcF Tryz.prog ω Tryz.f179 [a0] K=YF ω a0 K:=by kernel_rfl
theorem AHt (h:YF ω a0 (fun v=>Gh (K v)) I L):CT ω 179 #[a0] K I L:=Cal.gh (AG mixed Tryz.func179 (by rw [YE];exact h))
def Sy (ω:Om)(p0 p5:Value)(Kn0:(Unit)→M)(K:Value→M):M:=MQ p5<|gh fun v3=>Pv (exV v3 0) fun v4=>Br v4 (Rn (OT p5) fun v5=>Pv (exV v5 0) fun v6=>CW ω p0 #[v6]<|gh fun v7=>Pv (unV .not v7) fun v8=>Br v8 (K (Value.tuple #[])) (Kn0 (()))) (K (Value.tuple #[]))
def YD (ω:Om)(a0 a1:Value)(K:Value→M):M:=Rn (AB a1) fun v1=>JW v1<|gh fun v2=>Aj ((()):Unit) fun s Kn0=>Sy ω a0 v2 Kn0 K
theorem YC (ω:Om)(a0 a1:Value)(K:Value→M):vcF Tryz.prog ω Tryz.f181 [a0,a1] K=YD ω a0 a1 K:=by kernel_rfl
theorem AHs (h:YD ω a0 a1 (fun v=>Gh (K v)) I L):CT ω 181 #[a0,a1] K I L:=Cal.gh (AG mixed Tryz.func181 (by rw [YC];exact h))
def Sx (ω:Om)(a0:Value)(K:Value→M):M:=CT ω 232 #[S0,a0]<|gh fun v1=>K v1
theorem YB (ω:Om)(a0:Value)(K:Value→M):vcF Tryz.prog ω Tryz.f182 [a0] K=Sx ω a0 K:=by kernel_rfl
theorem ACE (h:Sx ω a0 (fun v=>Gh (K v)) I L):CT ω 182 #[a0] K I L:=Cal.gh (AG mixed Tryz.func182 (by rw [YB];exact h))
def Sv (ω:Om)(p0 p5:Value)(Kn0:(Unit)→M)(K:Value→M):M:=MQ p5<|gh fun v3=>Pv (exV v3 0) fun v4=>Br v4 (Rn (OT p5) fun v5=>Pv (exV v5 0) fun v6=>CW ω p0 #[v6]<|gh fun v7=>Pv (unV .not v7) fun v8=>Br v8 (K (Value.tuple #[])) (Kn0 (()))) (K (Value.tuple #[]))
def YA (ω:Om)(a0 a1:Value)(K:Value→M):M:=Rn (AB a1) fun v1=>JW v1<|gh fun v2=>Aj ((()):Unit) fun s Kn0=>Sv ω a0 v2 Kn0 K
theorem Xz (ω:Om)(a0 a1:Value)(K:Value→M):vcF Tryz.prog ω Tryz.f184 [a0,a1] K=YA ω a0 a1 K:=by kernel_rfl
theorem AHr (h:YA ω a0 a1 (fun v=>Gh (K v)) I L):CT ω 184 #[a0,a1] K I L:=Cal.gh (AG mixed Tryz.func184 (by rw [Xz];exact h))
def Su (ω:Om)(p0 p5:Value)(Kn0:(Unit)→M)(K:Value→M):M:=MQ p5<|gh fun v3=>Pv (exV v3 0) fun v4=>Br v4 (Rn (OT p5) fun v5=>Pv (exV v5 0) fun v6=>CW ω p0 #[v6]<|gh fun v7=>Pv (unV .not v7) fun v8=>Br v8 (K (Value.tuple #[])) (Kn0 (()))) (K (Value.tuple #[]))
def Xy (ω:Om)(a0 a1:Value)(K:Value→M):M:=Rn (AB a1) fun v1=>JW v1<|gh fun v2=>Aj ((()):Unit) fun s Kn0=>Su ω a0 v2 Kn0 K
theorem Xx (ω:Om)(a0 a1:Value)(K:Value→M):vcF Tryz.prog ω Tryz.f185 [a0,a1] K=Xy ω a0 a1 K:=by kernel_rfl
theorem AHq (h:Xy ω a0 a1 (fun v=>Gh (K v)) I L):CT ω 185 #[a0,a1] K I L:=Cal.gh (AG mixed Tryz.func185 (by rw [Xx];exact h))
def Sr (ω:Om)(p1 p2:Value)(p3 p4:Value)(K:Value→M):M:=Pv (AA 1 p1) fun v14=>Rn (AB v14) fun v15=>Pv (AC .shr v15 (.int .u64 8)) fun v16=>Pv (Lf .u8 v16) fun v17=>Pv (AA 1 p1) fun v18=>Rn (AB v18) fun v19=>Pv (Lf .u8 v19) fun v20=>Ay 5 1 #[(.int .u8 0)] 2 [(0,v17),(1,v20)]<|gh fun v21=>App 5 1 1 #[(.int .u8 0)] p4 v21<|gh fun v22=>K (Value.tuple #[v22,I0])
def Ss (ω:Om)(p1 p2:Value)(p3 x4 x5:Value)(Kn0:(Value×Value×Unit)→M)(K:Value→M):M:=Pv (AC .geq x5 I0) fun v6=>Br v6 (Pv (AA 0 p1) fun v7=>Rn (AB v7) fun v8=>Pv (AC .shr v8 x5) fun v9=>Pv (Lf .u8 v9) fun v10=>Ay 5 1 #[(.int .u8 0)] 1 [(0,v10)]<|gh fun v11=>App 5 1 1 #[(.int .u8 0)] x4 v11<|gh fun v12=>Pv (AC .sub x5 (.int .i64 8)) fun v13=>Kn0 (v12,v13,())) (Sr ω p1 p2 p3 x4 K)
def Xw (ω:Om)(a0:Value)(K:Value→M):M:=New (.cells (Value.cells a0) 41 (0,0))<|gh fun s_1=>Rn (AF 2 s_1) fun v2=>CT ω 89 #[v2]<|gh fun v3=>Pv (unV .not v3) fun v4=>Br v4 (K (Value.tuple #[S0,(.int .i64 80)])) (MkS 5 1 #[(.int .u8 0)] I0 (.int .i64 9)<|gh fun v5=>Aj ((v5,(.int .i64 48),()):Value×Value×Unit) fun s Kn0=>Ss ω s_1 S0 I0 s.1 s.2.1 Kn0 K)
theorem Xv (ω:Om)(a0:Value)(K:Value→M):vcF Tryz.prog ω Tryz.f186 [a0] K=Xw ω a0 K:=by kernel_rfl
theorem AHp (h:Xw ω a0 (fun v=>Gh (K v)) I L):CT ω 186 #[a0] K I L:=Cal.gh (AG mixed Tryz.func186 (by rw [Xv];exact h))
def Xu (ω:Om)(a0 a1:Value)(a2 a3:Value)(K:Value→M):M:=Ac fun S=>Pv (AJ a0) fun v1=>Pv (AA 4 v1) fun v2=>Rs S (AB v2) fun v3=>Rs S (bsR a1) fun v4=>Pv (AW #[(.bool false),S0,S0] #[(0,1),(1,1),(2,1)] [(0,a3),(1,a1),(2,a2)]) fun v5=>GU .string v3 v4 v5<|gh fun _=>K (Value.tuple #[])
theorem Xr (ω:Om)(a0 a1 a2 a3:Value)(K:Value→M):vcF Tryz.prog ω Tryz.f187 [a0,a1,a2,a3] K=Xu ω a0 a1 a2 a3 K:=by kernel_rfl
theorem AHo (h:Xu ω a0 a1 a2 a3 (fun v=>Gh (K v)) I L):CT ω 187 #[a0,a1,a2,a3] K I L:=Cal.gh (AG mixed Tryz.func187 (by rw [Xr];exact h))
def Xq (ω:Om)(a0 a1 a2:Value)(K:Value→M):M:=New (.cells (Value.cells a2) 253 (0,0))<|gh fun v_1=>Rn (AF 4 v_1) fun v2=>CT ω 234 #[a1,v2]<|gh fun v3=>CT ω 187 #[a0,v3,S0,(.bool true)]<|gh fun v4=>K (Value.tuple #[])
theorem Xp (ω:Om)(a0 a1 a2:Value)(K:Value→M):vcF Tryz.prog ω Tryz.f188 [a0,a1,a2] K=Xq ω a0 a1 a2 K:=by kernel_rfl
theorem AHn (h:Xq ω a0 a1 a2 (fun v=>Gh (K v)) I L):CT ω 188 #[a0,a1,a2] K I L:=Cal.gh (AG mixed Tryz.func188 (by rw [Xp];exact h))
def Sq (ω:Om)(a0 a1 a2:Value)(K:Value→M):M:=New (.cells (Value.cells a2) 253 (0,0))<|gh fun v_1=>Ac fun S=>Rs S (AF 4 v_1) fun v2=>CT ω 234 #[a1,v2]<|gh<|BN S fun v3=>Rs S (AF 4 v_1) fun v4=>CT ω 235 #[v4]<|gh fun v5=>CT ω 187 #[a0,v3,v5,(.bool false)]<|gh fun v6=>K (Value.tuple #[])
theorem Xo (ω:Om)(a0 a1 a2:Value)(K:Value→M):vcF Tryz.prog ω Tryz.f189 [a0,a1,a2] K=Sq ω a0 a1 a2 K:=by kernel_rfl
theorem ACD (h:Sq ω a0 a1 a2 (fun v=>Gh (K v)) I L):CT ω 189 #[a0,a1,a2] K I L:=Cal.gh (AG mixed Tryz.func189 (by rw [Xo];exact h))
def So (ω:Om)(a0 a1:Value)(K:Value→M):M:=Ay 5 1 #[(.int .u8 0)] 1 [(0,(.int .u8 105))]<|gh fun v1=>App 5 1 1 #[(.int .u8 0)] v1 a1<|gh fun v2=>Pv (AJ a0) fun v3=>Pv (AA 0 v3) fun v4=>Rn (AB v4) fun v5=>Rn (lkR .string N0 false v5 a1) fun v6=>Pv (AJ v6) fun v7=>Pv (AA 1 v7) fun v8=>Pv (AA 4 v8) fun v9=>Rn (AB v9) fun v10=>Pv (AC .eql v10 I0) fun v11=>Br v11 (CT ω 187 #[a0,v2,S0,(.bool true)]<|gh fun v12=>K (Value.tuple #[])) (Pv (AJ v6) fun v13=>Pv (AA 1 v13) fun v14=>Pv (AA 0 v14) fun v15=>Pv (AA 0 v15) fun v16=>Rn (AF 2 v16) fun v17=>CT ω 186 #[v17]<|gh fun v18=>Pv (exV v18 0) fun v19=>Pv (exV v18 1) fun v20=>Pv (AJ v6) fun v21=>Pv (AA 1 v21) fun v22=>Pv (AA 4 v22) fun v23=>Rn (AB v23) fun v24=>Pv (Lf .u64 v24) fun v25=>CT ω 121 #[v25]<|gh fun v26=>App 5 1 1 #[(.int .u8 0)] v19 v26<|gh fun v27=>Pv (AJ v6) fun v28=>Pv (AA 1 v28) fun v29=>Pv (AA 0 v29) fun v30=>Rn (AF 4 v30) fun v31=>CT ω 235 #[v31]<|gh fun v32=>App 5 1 1 #[(.int .u8 0)] v27 v32<|gh fun v33=>CT ω 187 #[a0,v2,v33,(.bool false)]<|gh fun v34=>K (Value.tuple #[]))
theorem Xm (ω:Om)(a0 a1:Value)(K:Value→M):vcF Tryz.prog ω Tryz.f190 [a0,a1] K=So ω a0 a1 K:=by kernel_rfl
theorem ACC (h:So ω a0 a1 (fun v=>Gh (K v)) I L):CT ω 190 #[a0,a1] K I L:=Cal.gh (AG mixed Tryz.func190 (by rw [Xm];exact h))
def Sn (ω:Om)(a0 a1:Value)(K:Value→M):M:=Pv (AJ a0) fun v1=>Pv (AA 0 v1) fun v2=>Rn (AB v2) fun v3=>Rn (lkR .string N0 false v3 a1) fun v4=>Pv (Bh .eql v4 N0) fun v5=>Br v5 (Pv (AW #[S0,I0,I0,(.bool false),(Value.string (ByteArray.mk #[])),I0] #[(0,1),(1,5)] []) fun v6=>New (.cells (Value.cells v6) 257 (0,0))<|gh fun v7=>Pv (AJ a0) fun v8=>Pv (AA 0 v8) fun v9=>Rn (AB v9) fun v10=>GU .string v10 a1 v7<|gh fun _=>Pv (AJ a0) fun v11=>Pv (AA 1 v11) fun v12=>Rn (AB v12) fun v13=>CT ω 144 #[v13,a1]<|gh fun v14=>Pv (exV v14 0) fun v15=>Pv (exV v14 1) fun v16=>Pv (AJ a0) fun v17=>Pv (AA 1 v17) fun v18=>Rn (AB v18) fun v19=>Ay 9 1 #[(Value.string (ByteArray.mk #[]))] 1 [(0,a1)]<|gh fun v20=>CT ω 242 #[v19,v15,v20]<|gh fun v21=>Pv (AJ a0) fun v22=>Pv (AA 1 v22) fun v23=>Sto 1 v23 v21<|gh fun _=>K v7) (K v4)
theorem Xl (ω:Om)(a0 a1:Value)(K:Value→M):vcF Tryz.prog ω Tryz.f206 [a0,a1] K=Sn ω a0 a1 K:=by kernel_rfl
theorem ACB (h:Sn ω a0 a1 (fun v=>Gh (K v)) I L):CT ω 206 #[a0,a1] K I L:=Cal.gh (AG mixed Tryz.func206 (by rw [Xl];exact h))
def sh210 (ω:Om)(a0 a1:Value)(K:Value→M):M:=CT ω 244 #[a0]<|gh fun v1=>Gd v1 true (CT ω 244 #[a1]<|gh fun v2=>Pv (unV .not v2) fun v3=>Gd v3 false (Pv (Ao .lss a0 a1) fun v4=>K v4) (K (.bool true))) (Pv (Ao .lss a0 a1) fun v5=>K v5)
theorem Xj (ω:Om)(a0 a1:Value)(K:Value→M):vcF Tryz.prog ω Tryz.f210 [a0,a1] K=sh210 ω a0 a1 K:=by kernel_rfl
theorem AHm (h:sh210 ω a0 a1 (fun v=>Gh (K v)) I L):CT ω 210 #[a0,a1] K I L:=Cal.gh (AG mixed Tryz.func210 (by rw [Xj];exact h))
def Xi (ω:Om)(a0:Value)(K:Value→M):M:=Pv (Ao .neq a0 a0) fun v1=>K v1
theorem Xh (ω:Om)(a0:Value)(K:Value→M):vcF Tryz.prog ω Tryz.f211 [a0] K=Xi ω a0 K:=by kernel_rfl
theorem AHl (h:Xi ω a0 (fun v=>Gh (K v)) I L):CT ω 211 #[a0] K I L:=Cal.gh (AG mixed Tryz.func211 (by rw [Xh];exact h))
def sh212 (ω:Om)(a0 a1:Value)(K:Value→M):M:=New (.cells (Value.cells a0) 41 (0,0))<|gh fun at_1=>Rn (AF 2 at_1) fun v2=>CT ω 89 #[v2]<|gh fun v3=>Gd v3 true (Pv (AC .eql a1 I0) fun v4=>Gd v4 false (CT ω 217 #[a1]<|gh fun v5=>K v5) (K (.bool true))) (K (.bool false))
theorem Xg (ω:Om)(a0 a1:Value)(K:Value→M):vcF Tryz.prog ω Tryz.f212 [a0,a1] K=sh212 ω a0 a1 K:=by kernel_rfl
theorem AHk (h:sh212 ω a0 a1 (fun v=>Gh (K v)) I L):CT ω 212 #[a0,a1] K I L:=Cal.gh (AG mixed Tryz.func212 (by rw [Xg];exact h))
def sh213 (ω:Om)(a0 a1:Value)(K:Value→M):M:=New (.cells (Value.cells a0) 41 (0,0))<|gh fun a_1=>New (.cells (Value.cells a1) 41 (0,0))<|gh fun b_2=>Rn (AF 2 a_1) fun v3=>Rn (AF 2 b_2) fun v4=>CT ω 158 #[v3,v4]<|gh fun v5=>Pv (AC .gtr v5 I0) fun v6=>K v6
theorem Xf (ω:Om)(a0 a1:Value)(K:Value→M):vcF Tryz.prog ω Tryz.f213 [a0,a1] K=sh213 ω a0 a1 K:=by kernel_rfl
theorem AHj (h:sh213 ω a0 a1 (fun v=>Gh (K v)) I L):CT ω 213 #[a0,a1] K I L:=Cal.gh (AG mixed Tryz.func213 (by rw [Xf];exact h))
def sh214_3 (ω:Om)(p6 p7:Value)(K:Value→M):M:=Pv (AW Ze Zj []) fun v15=>Sto 5 p6 v15<|gh fun _=>Rn (AF 5 p6) fun v16=>K (Value.tuple #[v16,I0])
def sh214_2 (ω:Om)(p6 p7 p8:Value)(K:Value→M):M:=Pv (Bh .eql p8 N0) fun v11=>Gd v11 false (Pv (AJ p8) fun v12=>Pv (AA 2 v12) fun v13=>Rn (AB v13) fun v14=>Br v14 (sh214_3 ω p6 p7 K) (Ac fun S=>Pv (AJ p8) fun v17=>Pv (AA 3 v17) fun v18=>Rs S (AB v18) fun v19=>Oh 5 v19<|gh<|BN S fun v20=>Pv (AJ p8) fun v21=>Pv (AA 0 v21) fun v22=>Rs S (AF 2 v22) fun v23=>Pv (AW Ze Zj [(0,(.bool true)),(1,v20),(2,v23)]) fun v24=>Sto 5 p6 v24<|gh fun _=>Rn (AF 5 p6) fun v25=>K (Value.tuple #[v25,I0]))) (sh214_3 ω p6 p7 K)
def sh214 (ω:Om)(a0 a1 a2:Value)(K:Value→M):M:=New (.cells (Value.cells a1) 41 (0,0))<|gh fun at_1=>New (.cells Ze 49 (0,0))<|gh fun v2=>Rn (AF 2 at_1) fun v3=>CT ω 221 #[a0,v3]<|gh fun v4=>Pv (AJ a0) fun v5=>Pv (AA 1 v5) fun v6=>Pv (AJ v6) fun v7=>Pv (AA 4 v7) fun v8=>Rn (AB v8) fun v9=>Pv (AC .eql v9 I0) fun v10=>Br v10 (sh214_2 ω v2 I0 v4 K) (Pv (AJ v6) fun v26=>Pv (AA 4 v26) fun v27=>Rn (AB v27) fun v28=>Pv (AC .eql v28 a2) fun v29=>Br v29 (Pv (AJ v6) fun v30=>Pv (AA 0 v30) fun v31=>sh214_2 ω v2 I0 v31 K) (Ac fun S=>Pv (AJ v6) fun v32=>Pv (AA 0 v32) fun v33=>Pv (AA 0 v33) fun v34=>Rs S (AF 2 v34) fun v35=>Rs S (AF 2 at_1) fun v36=>CT ω 213 #[v35,v36]<|gh fun v37=>Pv (unV .not v37) fun v38=>Br v38 (Pv (AJ v6) fun v39=>Pv (AA 4 v39) fun v40=>Rn (AB v40) fun v41=>Pv (AW Ze Zj [(3,v41)]) fun v42=>Sto 5 v2 v42<|gh fun _=>Rn (AF 5 v2) fun v43=>K (Value.tuple #[v43,(.int .i64 130)])) (sh214_2 ω v2 I0 v4 K)))
theorem Xe (ω:Om)(a0 a1 a2:Value)(K:Value→M):vcF Tryz.prog ω Tryz.f214 [a0,a1,a2] K=sh214 ω a0 a1 a2 K:=by kernel_rfl
theorem AHi (h:sh214 ω a0 a1 a2 (fun v=>Gh (K v)) I L):CT ω 214 #[a0,a1,a2] K I L:=Cal.gh (AG mixed Tryz.func214 (by rw [Xe];exact h))
def Xd (ω:Om)(a0:Value)(K:Value→M):M:=Pv (lenV a0) fun v1=>Pv (lenV a0) fun v2=>Pv (BL 2 a0 none (some v1) (some v2)) fun v3=>K v3
theorem Xc (ω:Om)(a0:Value)(K:Value→M):vcF Tryz.prog ω Tryz.f215 [a0] K=Xd ω a0 K:=by kernel_rfl
theorem AHh (h:Xd ω a0 (fun v=>Gh (K v)) I L):CT ω 215 #[a0] K I L:=Cal.gh (AG mixed Tryz.func215 (by rw [Xc];exact h))
def sh216 (ω:Om)(a0:Value)(K:Value→M):M:=New (.cells (Value.cells a0) 41 (0,0))<|gh fun s_1=>New (.cells Zb 41 (0,0))<|gh fun v2=>Rn (AF 2 s_1) fun v3=>CT ω 89 #[v3]<|gh fun v4=>Pv (unV .not v4) fun v5=>Br v5 (Pv (AW Zb #[(0,1),(1,1)] []) fun v6=>Sto 2 v2 v6<|gh fun _=>Rn (AF 2 v2) fun v7=>K (Value.tuple #[v7,(.int .i64 80)])) (Rn (AF 2 s_1) fun v8=>Pv (AW Zb #[(0,1),(1,1)] [(0,(.int .i64 9007199254740991)),(1,(.int .i64 65535))]) fun v9=>Pv (Bd .eql [(TypeDesc.int .i64,0),(TypeDesc.int .i64,1)] v8 v9) fun v10=>Br v10 (Pv (AW Zb #[(0,1),(1,1)] []) fun v11=>Sto 2 v2 v11<|gh fun _=>Rn (AF 2 v2) fun v12=>K (Value.tuple #[v12,(.int .i64 82)])) (Pv (AA 1 s_1) fun v13=>Rn (AB v13) fun v14=>Pv (AC .eql v14 (.int .i64 65535)) fun v15=>Br v15 (Pv (AA 0 s_1) fun v16=>Rn (AB v16) fun v17=>Pv (AC .add v17 (.int .i64 1)) fun v18=>Pv (AW Zb #[(0,1),(1,1)] [(0,v18)]) fun v19=>Sto 2 v2 v19<|gh fun _=>Rn (AF 2 v2) fun v20=>K (Value.tuple #[v20,I0])) (Pv (AA 1 s_1) fun v21=>Rn (AB v21) fun v22=>Pv (AC .add v22 (.int .i64 1)) fun v23=>Pv (AA 1 s_1) fun v24=>Sto 1 v24 v23<|gh fun _=>Rn (AF 2 s_1) fun v25=>Sto 2 v2 v25<|gh fun _=>Rn (AF 2 v2) fun v26=>K (Value.tuple #[v26,I0]))))
theorem Xb (ω:Om)(a0:Value)(K:Value→M):vcF Tryz.prog ω Tryz.f216 [a0] K=sh216 ω a0 K:=by kernel_rfl
theorem AHg (h:sh216 ω a0 (fun v=>Gh (K v)) I L):CT ω 216 #[a0] K I L:=Cal.gh (AG mixed Tryz.func216 (by rw [Xb];exact h))
def sh217 (ω:Om)(a0:Value)(K:Value→M):M:=Pv (AC .geq a0 (.int .i64 1)) fun v1=>Gd v1 true (Pv (AC .leq a0 (.int .i64 9007199254740991)) fun v2=>K v2) (K (.bool false))
theorem XZ (ω:Om)(a0:Value)(K:Value→M):vcF Tryz.prog ω Tryz.f217 [a0] K=sh217 ω a0 K:=by kernel_rfl
theorem AHf (h:sh217 ω a0 (fun v=>Gh (K v)) I L):CT ω 217 #[a0] K I L:=Cal.gh (AG mixed Tryz.func217 (by rw [XZ];exact h))
def Sl (ω:Om)(p0 p2:Value)(x3 x4:Value)(Kn0:(Value×Value×Unit)→M)(K:Value→M):M:=Pv (lenV p0) fun v5=>Pv (AC .lss x4 v5) fun v6=>Br v6 (Pv (ixV 1 p0 x4) fun v7=>Rn (AB v7) fun v8=>Pv (AFD x3 v8) fun v9=>Pv (AC .add x4 (.int .i64 1)) fun v10=>Kn0 (v9,v10,())) (K x3)
def Sm (ω:Om)(p0 p2:Value)(K:Value→M):M:=Pv (ixV 1 p0 I0) fun v3=>Rn (AB v3) fun v4=>Aj ((v4,(.int .i64 1),()):Value×Value×Unit) fun s Kn0=>Sl ω p0 p2 s.1 s.2.1 Kn0 K
def XY (ω:Om)(a0:Value)(K:Value→M):M:=Pv (lenV a0) fun v1=>Pv (AC .lss v1 (.int .i64 1)) fun v2=>Br v2 (F /- panic -/) (Sm ω a0 I0 K)
theorem XW (ω:Om)(a0:Value)(K:Value→M):vcF Tryz.prog ω Tryz.f218 [a0] K=XY ω a0 K:=by kernel_rfl
theorem AHe (h:XY ω a0 (fun v=>Gh (K v)) I L):CT ω 218 #[a0] K I L:=Cal.gh (AG mixed Tryz.func218 (by rw [XW];exact h))
def Sk (ω:Om)(p3 p6:Value)(p7 x2 x8:Value)(Kn0:(Value×Value×Unit)→M)(K:Value→M):M:=Pv (AC .lss x8 p7) fun v2=>Br v2 (Pv (ixV 1 p6 x8) fun v3=>Rn (AB v3) fun v4=>Pv (AC .neq v4 p3) fun v5=>Br v5 (K v4) (Pv (AC .add x8 (.int .i64 1)) fun v6=>Kn0 (x2,v6,()))) (K p3)
def XV (ω:Om)(a0:Value)(K:Value→M):M:=Pv (lenV a0) fun v1=>Aj ((I0,I0,()):Value×Value×Unit) fun s Kn0=>Sk ω I0 a0 v1 s.1 s.2.1 Kn0 K
theorem XU (ω:Om)(a0:Value)(K:Value→M):vcF Tryz.prog ω Tryz.f219 [a0] K=XV ω a0 K:=by kernel_rfl
theorem AHd (h:XV ω a0 (fun v=>Gh (K v)) I L):CT ω 219 #[a0] K I L:=Cal.gh (AG mixed Tryz.func219 (by rw [XU];exact h))
def sh220 (ω:Om)(a0 a1:Value)(K:Value→M):M:=CT ω 245 #[a0]<|gh fun v1=>CT ω 245 #[a1]<|gh fun v2=>Br v1 (Br v2 (K I0) (K (.int .i64 (-1)))) (Br v2 (K (.int .i64 1)) (Pv (AC .lss a0 a1) fun v3=>Br v3 (K (.int .i64 (-1))) (Pv (AC .gtr a0 a1) fun v4=>Br v4 (K (.int .i64 1)) (K I0))))
theorem XT (ω:Om)(a0 a1:Value)(K:Value→M):vcF Tryz.prog ω Tryz.f220 [a0,a1] K=sh220 ω a0 a1 K:=by kernel_rfl
theorem AHc (h:sh220 ω a0 a1 (fun v=>Gh (K v)) I L):CT ω 220 #[a0,a1] K I L:=Cal.gh (AG mixed Tryz.func220 (by rw [XT];exact h))
def Sj (ω:Om)(p0 p3:Value)(x4 x5:Value)(Kn0:(Value×Value×Unit)→M)(K:Value→M):M:=Pv (AC .geq x5 I0) fun v7=>Br v7 (Ac fun S=>Pv (AJ p0) fun v8=>Pv (AA 0 v8) fun v9=>Rs S (AB v9) fun v10=>Pv (ixV 4 v10 x5) fun v11=>Pv (AA 0 v11) fun v12=>Rs S (AF 2 v12) fun v13=>Rs S (AF 2 p3) fun v14=>CT ω 213 #[v13,v14]<|gh fun v15=>Pv (unV .not v15) fun v16=>Br v16 (Pv (AJ p0) fun v17=>Pv (AA 0 v17) fun v18=>Rn (AB v18) fun v19=>Pv (ixV 4 v19 x5) fun v20=>K v20) (Pv (AC .sub x5 (.int .i64 1)) fun v21=>Kn0 (x4,v21,()))) (K N0)
def XQ (ω:Om)(a0 a1:Value)(K:Value→M):M:=New (.cells (Value.cells a1) 41 (0,0))<|gh fun at_1=>Pv (AJ a0) fun v2=>Pv (AA 0 v2) fun v3=>Rn (AB v3) fun v4=>Pv (lenV v4) fun v5=>Pv (AC .sub v5 (.int .i64 1)) fun v6=>Aj ((N0,v6,()):Value×Value×Unit) fun s Kn0=>Sj ω a0 at_1 s.1 s.2.1 Kn0 K
theorem XP (ω:Om)(a0 a1:Value)(K:Value→M):vcF Tryz.prog ω Tryz.f221 [a0,a1] K=XQ ω a0 a1 K:=by kernel_rfl
theorem AHb (h:XQ ω a0 a1 (fun v=>Gh (K v)) I L):CT ω 221 #[a0,a1] K I L:=Cal.gh (AG mixed Tryz.func221 (by rw [XP];exact h))
def XJ (ω:Om)(a0 a1:Value)(K:Value→M):M:=Pv (AJ a0) fun v1=>Pv (AA 0 v1) fun v2=>Rn (AB v2) fun v3=>Rn (lkR .string N0 false v3 a1) fun v4=>Pv (AJ v4) fun v5=>Pv (AA 0 v5) fun v6=>Rn (AB v6) fun v7=>Pv (lenV v7) fun v8=>Pv (AC .gtr v8 I0) fun v9=>Gd v9 false (Pv (AJ v4) fun v10=>Pv (AA 1 v10) fun v11=>Pv (AA 4 v11) fun v12=>Rn (AB v12) fun v13=>Pv (AC .neq v13 I0) fun v14=>Br v14 (K (Value.tuple #[])) (Pv (AJ a0) fun v15=>Pv (AA 0 v15) fun v16=>Rn (AB v16) fun v17=>MT .string v17 a1<|gh fun _=>Pv (AJ a0) fun v18=>Pv (AA 1 v18) fun v19=>Rn (AB v19) fun v20=>CT ω 144 #[v20,a1]<|gh fun v21=>Pv (exV v21 0) fun v22=>Pv (exV v21 1) fun v23=>Pv (AJ a0) fun v24=>Pv (AA 1 v24) fun v25=>Rn (AB v25) fun v26=>Pv (AC .add v22 (.int .i64 1)) fun v27=>CT ω 246 #[v26,v22,v27]<|gh fun v28=>Pv (AJ a0) fun v29=>Pv (AA 1 v29) fun v30=>Sto 1 v30 v28<|gh fun _=>K (Value.tuple #[]))) (K (Value.tuple #[]))
theorem XI (ω:Om)(a0 a1:Value)(K:Value→M):vcF Tryz.prog ω Tryz.f222 [a0,a1] K=XJ ω a0 a1 K:=by kernel_rfl
theorem AHa (h:XJ ω a0 a1 (fun v=>Gh (K v)) I L):CT ω 222 #[a0,a1] K I L:=Cal.gh (AG mixed Tryz.func222 (by rw [XI];exact h))
def Jp (ω:Om)(p5 p6:Value)(Kn0:(Value×Value×Unit)→M)(K:Value→M):M:=Pv (AC .add p6 (.int .i64 1)) fun v15=>Kn0 (p5,v15,())
def Sh (ω:Om)(p0 p4 p5:Value)(K:Value→M):M:=Pv (BL 4 p0 (some p5) none none) fun v16=>AFd #[I0,I0,(.bool false),(Value.string (ByteArray.mk #[]))] v16<|gh fun _=>Pv (BL 4 p0 none (some p5) none) fun v17=>K v17
def Si (ω:Om)(p0 p1:Value)(p4 x5 x6:Value)(Kn0:(Value×Value×Unit)→M)(K:Value→M):M:=Pv (lenV p0) fun v4=>Pv (AC .lss x6 v4) fun v5=>Br v5 (Pv (ixV 4 p0 x6) fun v6=>Rn (AF 4 v6) fun v7=>New (.cells #[I0,I0,(.bool false),(Value.string (ByteArray.mk #[]))] 253 (0,0))<|gh fun v_8=>Sto 4 v_8 v7<|gh fun _=>Rn (AF 4 v_8) fun v9=>CW ω p1 #[v9]<|gh fun v10=>Pv (unV .not v10) fun v11=>Br v11 (Rn (AF 4 v_8) fun v12=>Pv (ixV 4 p0 x5) fun v13=>Sto 4 v13 v12<|gh fun _=>Pv (AC .add x5 (.int .i64 1)) fun v14=>Jp ω v14 x6 Kn0 K) (Jp ω x5 x6 Kn0 K)) (Sh ω p0 p4 x5 K)
def XH (ω:Om)(a0 a1:Value)(K:Value→M):M:=CT ω 247 #[a0,a1]<|gh fun v1=>Pv (AC .eql v1 (.int .i64 (-1))) fun v2=>Br v2 (K a0) (Pv (AC .add v1 (.int .i64 1)) fun v3=>Aj ((v1,v3,()):Value×Value×Unit) fun s Kn0=>Si ω a0 a1 S0 s.1 s.2.1 Kn0 K)
theorem XG (ω:Om)(a0 a1:Value)(K:Value→M):vcF Tryz.prog ω Tryz.f223 [a0,a1] K=XH ω a0 a1 K:=by kernel_rfl
theorem AHZ (h:XH ω a0 a1 (fun v=>Gh (K v)) I L):CT ω 223 #[a0,a1] K I L:=Cal.gh (AG mixed Tryz.func223 (by rw [XG];exact h))
def Jo (ω:Om)(p3 p4:Value)(p5 p6:Value)(p7 p8:Value)(K:Value→M):M:=Rn (AB p3) fun v11=>Pv (AC .add v11 (.int .i64 1)) fun v12=>Sto 1 p3 v12<|gh fun _=>Rn (AB p4) fun v13=>Rn (AB p5) fun v14=>Rn (AF 4 p6) fun v15=>CT ω 188 #[v13,v14,v15]<|gh fun v16=>K p8
def XF (ω:Om)(a0 a1:Value)(a2 a3:Value)(a4 a5:Value)(K:Value→M):M:=New (.cells (Value.cells a0) 253 (0,0))<|gh fun v_1=>Rn (AF 2 a1) fun v2=>Pv (AA 0 v_1) fun v3=>Rn (AF 2 v3) fun v4=>CT ω 213 #[v2,v4]<|gh fun v5=>Gd v5 false (Rn (AB a2) fun v6=>Gd v6 true (Pv (AA 0 v_1) fun v7=>Rn (AF 2 v7) fun v8=>Rn (AF 2 a1) fun v9=>Pv (Bd .eql [(TypeDesc.int .i64,0),(TypeDesc.int .i64,1)] v8 v9) fun v10=>Br v10 (Jo ω a3 a4 a5 v_1 (.bool false) v10 K) (K v10)) (K (.bool false))) (Jo ω a3 a4 a5 v_1 (.bool false) (.bool true) K)
theorem XE (ω:Om)(a0 a1 a2 a3 a4 a5:Value)(K:Value→M):vcF Tryz.prog ω Tryz.f224 [a0,a1,a2,a3,a4,a5] K=XF ω a0 a1 a2 a3 a4 a5 K:=by kernel_rfl
theorem AHY (h:XF ω a0 a1 a2 a3 a4 a5 (fun v=>Gh (K v)) I L):CT ω 224 #[a0,a1,a2,a3,a4,a5] K I L:=Cal.gh (AG mixed Tryz.func224 (by rw [XE];exact h))
def sh226 (ω:Om)(a0:Value)(K:Value→M):M:=New (.cells (Value.cells a0) 41 (0,0))<|gh fun s_1=>New (.cells Zb 41 (0,0))<|gh fun v2=>Rn (AF 2 s_1) fun v3=>CT ω 66 #[v3]<|gh fun v4=>Pv (unV .not v4) fun v5=>Br v5 (Pv (AW Zb #[(0,1),(1,1)] []) fun v6=>Sto 2 v2 v6<|gh fun _=>Rn (AF 2 v2) fun v7=>K (Value.tuple #[v7,(.int .i64 80)])) (Pv (AA 1 s_1) fun v8=>Rn (AB v8) fun v9=>Pv (AC .lss v9 (.int .i64 65535)) fun v10=>Br v10 (Pv (AA 0 s_1) fun v11=>Rn (AB v11) fun v12=>Pv (AA 1 s_1) fun v13=>Rn (AB v13) fun v14=>Pv (AC .add v14 (.int .i64 1)) fun v15=>Pv (AW Zb #[(0,1),(1,1)] [(0,v12),(1,v15)]) fun v16=>Sto 2 v2 v16<|gh fun _=>Rn (AF 2 v2) fun v17=>K (Value.tuple #[v17,I0])) (Pv (AA 0 s_1) fun v18=>Rn (AB v18) fun v19=>Pv (AC .eql v19 (.int .i64 9007199254740991)) fun v20=>Br v20 (Pv (AW Zb #[(0,1),(1,1)] []) fun v21=>Sto 2 v2 v21<|gh fun _=>Rn (AF 2 v2) fun v22=>K (Value.tuple #[v22,(.int .i64 82)])) (Pv (AA 0 s_1) fun v23=>Rn (AB v23) fun v24=>Pv (AC .add v24 (.int .i64 1)) fun v25=>Pv (AW Zb #[(0,1),(1,1)] [(0,v25)]) fun v26=>Sto 2 v2 v26<|gh fun _=>Rn (AF 2 v2) fun v27=>K (Value.tuple #[v27,I0]))))
theorem XD (ω:Om)(a0:Value)(K:Value→M):vcF Tryz.prog ω Tryz.f226 [a0] K=sh226 ω a0 K:=by kernel_rfl
theorem AHX (h:sh226 ω a0 (fun v=>Gh (K v)) I L):CT ω 226 #[a0] K I L:=Cal.gh (AG mixed Tryz.func226 (by rw [XD];exact h))
def XB (ω:Om)(a0 a1:Value)(K:Value→M):M:=New (.cells Zd 188 (0,0))<|gh fun v1=>Pv (AW Zb #[(0,1),(1,1)] [(0,(.int .i64 9007199254740991)),(1,(.int .i64 65535))]) fun v2=>CT ω 167 #[a0,a1,v2]<|gh fun v3=>Pv (exV v3 0) fun v4=>Pv (exV v3 1) fun v5=>New (.cells Zd 188 (0,0))<|gh fun v_6=>Sto 5 v_6 v4<|gh fun _=>Rn (AF 5 v_6) fun v7=>Sto 5 v1 v7<|gh fun _=>Rn (AF 5 v1) fun v8=>K (Value.tuple #[v8,v5])
theorem XA (ω:Om)(a0 a1:Value)(K:Value→M):vcF Tryz.prog ω Tryz.f227 [a0,a1] K=XB ω a0 a1 K:=by kernel_rfl
theorem AHW (h:XB ω a0 a1 (fun v=>Gh (K v)) I L):CT ω 227 #[a0,a1] K I L:=Cal.gh (AG mixed Tryz.func227 (by rw [XA];exact h))
def Jn (ω:Om)(p4 p5 p6:Value)(Kn0:(Value×Value×Value×Unit)→M)(K:Value→M):M:=Pv (AC .add p6 (.int .i64 1)) fun v40=>Kn0 (p4,p5,v40,())
def GZ (ω:Om)(p0 p3:Value)(p4 p5 p6:Value)(Kn0:(Value×Value×Value×Unit)→M)(K:Value→M):M:=Ac fun S=>Pv (AJ p0) fun v22=>Pv (AA 1 v22) fun v23=>Rs S (AB v23) fun v24=>Pv (ixV 6 v24 p6) fun v25=>Pv (AA 0 v25) fun v26=>Rs S (AB v26) fun v27=>Rs S (bsR v27) fun v28=>Pv (AA 0 p3) fun v29=>Rs S (AB v29) fun v30=>Rs S (bsR v30) fun v31=>Pv (Ao .neq v28 v31) fun v32=>Br v32 (Pv (AJ p0) fun v33=>Pv (AA 1 v33) fun v34=>Rn (AB v34) fun v35=>Pv (ixV 6 v35 p6) fun v36=>Rn (AF 6 v36) fun v37=>Ay 190 6 Zf 1 [(0,v37)]<|gh fun v38=>App 190 6 80 Zf p4 v38<|gh fun v39=>Jn ω v39 p5 p6 Kn0 K) (Jn ω p4 p5 p6 Kn0 K)
def Sf (ω:Om)(p0 p3:Value)(p4 p5 p6:Value)(Kn0:(Value×Value×Value×Unit)→M)(K:Value→M):M:=Rn (AF 6 p3) fun v19=>Ay 190 6 Zf 1 [(0,v19)]<|gh fun v20=>App 190 6 80 Zf p4 v20<|gh fun v21=>GZ ω p0 p3 v21 (.bool true) p6 Kn0 K
def Jm (ω:Om)(p0 p4:Value)(K:Value→M):M:=Pv (AJ p0) fun v45=>Pv (AA 1 v45) fun v46=>Sto 1 v46 p4<|gh fun _=>K (Value.tuple #[])
def Se (ω:Om)(p0 p3:Value)(p4 p5:Value)(K:Value→M):M:=Pv (unV .not p5) fun v41=>Br v41 (Rn (AF 6 p3) fun v42=>Ay 190 6 Zf 1 [(0,v42)]<|gh fun v43=>App 190 6 80 Zf p4 v43<|gh fun v44=>Jm ω p0 v44 K) (Jm ω p0 p4 K)
def Sg (ω:Om)(p0 p3:Value)(x4 x5 x6:Value)(Kn0:(Value×Value×Value×Unit)→M)(K:Value→M):M:=Pv (AJ p0) fun v2=>Pv (AA 1 v2) fun v3=>Rn (AB v3) fun v4=>Pv (lenV v4) fun v5=>Pv (AC .lss x6 v5) fun v6=>Br v6 (Ac fun S=>Pv (unV .not x5) fun v7=>Gd v7 true (Pv (AJ p0) fun v8=>Pv (AA 1 v8) fun v9=>Rs S (AB v9) fun v10=>Pv (ixV 6 v10 x6) fun v11=>Pv (AA 0 v11) fun v12=>Rs S (AB v12) fun v13=>Rs S (bsR v13) fun v14=>Pv (AA 0 p3) fun v15=>Rs S (AB v15) fun v16=>Rs S (bsR v16) fun v17=>Pv (Ao .geq v14 v17) fun v18=>Br v18 (Sf ω p0 p3 x4 x5 x6 Kn0 K) (GZ ω p0 p3 x4 x5 x6 Kn0 K)) (GZ ω p0 p3 x4 x5 x6 Kn0 K)) (Se ω p0 p3 x4 x5 K)
def Wz (ω:Om)(a0 a1:Value)(K:Value→M):M:=New (.cells (Value.cells a1) 190 (0,0))<|gh fun x_1=>Aj ((S0,(.bool false),I0,()):Value×Value×Value×Unit) fun s Kn0=>Sg ω a0 x_1 s.1 s.2.1 s.2.2.1 Kn0 K
theorem Wy (ω:Om)(a0 a1:Value)(K:Value→M):vcF Tryz.prog ω Tryz.f228 [a0,a1] K=Wz ω a0 a1 K:=by kernel_rfl
theorem AHV (h:Wz ω a0 a1 (fun v=>Gh (K v)) I L):CT ω 228 #[a0,a1] K I L:=Cal.gh (AG mixed Tryz.func228 (by rw [Wy];exact h))
def Sd (ω:Om)(p0 p1:Value)(p2 p24:Value)(p25 x26:Value)(Kn0:(Value×Unit)→M)(K:Value→M):M:=Pv (AC .lss x26 p25) fun v17=>Br v17 (Pv (ixV 1 p24 x26) fun v18=>Rn (AB v18) fun v19=>Pv (AA 1 p2) fun v20=>Rn (AB v20) fun v21=>Pv (lenV v21) fun v22=>Pv (AC .gtr v22 I0) fun v23=>Gd v23 true (Pv (AA 1 p2) fun v24=>Rn (AB v24) fun v25=>Rn (bsR v25) fun v26=>Pv (Ao .geq v19 v26) fun v27=>Gd v27 false (Rn (AB p1) fun v28=>Pv (AJ v28) fun v29=>Pv (AA 0 v29) fun v30=>Rn (AB v30) fun v31=>Rn (lkR .string N0 false v31 v19) fun v32=>CW ω p0 #[v19,v32]<|gh fun v33=>Pv (unV .not v33) fun v34=>Br v34 (K (Value.tuple #[])) (Pv (AC .add x26 (.int .i64 1)) fun v35=>Kn0 (v35,()))) (K (Value.tuple #[]))) (Rn (AB p1) fun v36=>Pv (AJ v36) fun v37=>Pv (AA 0 v37) fun v38=>Rn (AB v38) fun v39=>Rn (lkR .string N0 false v39 v19) fun v40=>CW ω p0 #[v19,v40]<|gh fun v41=>Pv (unV .not v41) fun v42=>Br v42 (K (Value.tuple #[])) (Pv (AC .add x26 (.int .i64 1)) fun v43=>Kn0 (v43,())))) (K (Value.tuple #[]))
def Wx (ω:Om)(a0 a1 a2:Value)(K:Value→M):M:=Ac fun S=>Rs S (AB a1) fun v1=>Pv (AJ v1) fun v2=>Pv (AA 1 v2) fun v3=>Rs S (AB v3) fun v4=>Pv (AA 0 a2) fun v5=>Rs S (AB v5) fun v6=>Rs S (bsR v6) fun v7=>CT ω 144 #[v4,v7]<|gh fun v8=>Pv (exV v8 0) fun v9=>Pv (exV v8 1) fun v10=>Rn (AB a1) fun v11=>Pv (AJ v11) fun v12=>Pv (AA 1 v12) fun v13=>Rn (AB v13) fun v14=>Pv (BL 1 v14 (some v9) none none) fun v15=>Pv (lenV v15) fun v16=>Aj ((I0,()):Value×Unit) fun s Kn0=>Sd ω a0 a1 a2 v15 v16 s.1 Kn0 K
theorem Ww (ω:Om)(a0 a1 a2:Value)(K:Value→M):vcF Tryz.prog ω Tryz.f229 [a0,a1,a2] K=Wx ω a0 a1 a2 K:=by kernel_rfl
theorem AHU (h:Wx ω a0 a1 a2 (fun v=>Gh (K v)) I L):CT ω 229 #[a0,a1,a2] K I L:=Cal.gh (AG mixed Tryz.func229 (by rw [Ww];exact h))
def Np (ω:Om)(p2 p4:Value)(Q0:Nat)(K:Value→M):M:=Rn (AB p2) fun v5=>Tak Q0<|K v5
def Wv (ω:Om)(a0 a1:Value)(K:Value→M):M:=New (.cells (Value.cells a0) 177 (0,0))<|gh fun s_1=>NZ Tryz.prog ω a1 (fun r1_0 Bg Nk Xk Rk=>Bg (Rn (AB s_1) fun v2=>Ay 9 1 #[(Value.string (ByteArray.mk #[]))] 1 [(0,r1_0)]<|gh fun v3=>App 9 1 16 #[(Value.string (ByteArray.mk #[]))] v2 v3<|gh fun v4=>Sto 1 s_1 v4<|gh fun _=>Nk)) (fun D1=>Np ω s_1 S0 D1 K) (fun _=>[]) (fun D1=>Tak D1<|K S0)
theorem Wu (ω:Om)(a0 a1:Value)(K:Value→M):vcF Tryz.prog ω Tryz.f230 [a0,a1] K=Wv ω a0 a1 K:=by kernel_rfl
theorem AHT (h:Wv ω a0 a1 (fun v=>Gh (K v)) I L):CT ω 230 #[a0,a1] K I L:=Cal.gh (AG mixed Tryz.func230 (by rw [Wu];exact h))
def Hl (ω:Om)(p2 p4:Value)(Q0:Nat)(K:Value→M):M:=Rn (AB p2) fun v5=>Tak Q0<|K v5
def Sc (ω:Om)(a0 a1:Value)(K:Value→M):M:=New (.cells (Value.cells a0) 23 (0,0))<|gh fun s_1=>NZ Tryz.prog ω a1 (fun r1_0 Bg Nk Xk Rk=>Bg (Rn (AB s_1) fun v2=>Ay 3 1 #[I0] 1 [(0,r1_0)]<|gh fun v3=>App 3 1 8 #[I0] v2 v3<|gh fun v4=>Sto 1 s_1 v4<|gh fun _=>Nk)) (fun D1=>Hl ω s_1 S0 D1 K) (fun _=>[]) (fun D1=>Tak D1<|K S0)
theorem Wt (ω:Om)(a0 a1:Value)(K:Value→M):vcF Tryz.prog ω Tryz.f232 [a0,a1] K=Sc ω a0 a1 K:=by kernel_rfl
theorem ACA (h:Sc ω a0 a1 (fun v=>Gh (K v)) I L):CT ω 232 #[a0,a1] K I L:=Cal.gh (AG mixed Tryz.func232 (by rw [Wt];exact h))
def Ws (ω:Om)(a0 a1:Value)(K:Value→M):M:=New (.cells (Value.cells a1) 253 (0,0))<|gh fun v_1=>Pv (AA 0 v_1) fun v2=>Rn (AF 2 v2) fun v3=>CT ω 186 #[v3]<|gh fun v4=>Pv (exV v4 0) fun v5=>Pv (exV v4 1) fun v6=>Ay 5 1 #[(.int .u8 0)] 1 [(0,(.int .u8 118))]<|gh fun v7=>Oh 5 a0<|gh fun v8=>CT ω 265 #[v8]<|gh fun v9=>App 5 1 1 #[(.int .u8 0)] v7 v9<|gh fun v10=>App 5 1 1 #[(.int .u8 0)] v10 v5<|gh fun v11=>K v11
theorem Wr (ω:Om)(a0 a1:Value)(K:Value→M):vcF Tryz.prog ω Tryz.f234 [a0,a1] K=Ws ω a0 a1 K:=by kernel_rfl
theorem AHS (h:Ws ω a0 a1 (fun v=>Gh (K v)) I L):CT ω 234 #[a0,a1] K I L:=Cal.gh (AG mixed Tryz.func234 (by rw [Wr];exact h))
def Wq (ω:Om)(a0:Value)(K:Value→M):M:=New (.cells (Value.cells a0) 253 (0,0))<|gh fun v_1=>Pv (AA 2 v_1) fun v2=>Rn (AB v2) fun v3=>Br v3 (Ay 5 1 #[(.int .u8 0)] 1 [(0,(.int .u8 1))]<|gh fun v4=>K v4) (Ay 5 1 #[(.int .u8 0)] 1 [(0,(.int .u8 0))]<|gh fun v5=>Pv (AA 3 v_1) fun v6=>Rn (AB v6) fun v7=>App 5 1 1 #[(.int .u8 0)] v5 v7<|gh fun v8=>K v8)
theorem Wp (ω:Om)(a0:Value)(K:Value→M):vcF Tryz.prog ω Tryz.f235 [a0] K=Wq ω a0 K:=by kernel_rfl
theorem AHR (h:Wq ω a0 (fun v=>Gh (K v)) I L):CT ω 235 #[a0] K I L:=Cal.gh (AG mixed Tryz.func235 (by rw [Wp];exact h))
def Wo (ω:Om)(a0 a1 a2:Value)(K:Value→M):M:=Pv (BL 1 a0 (some a1) none none) fun v1=>Pv (lenV a2) fun v2=>Pv (AC .eql v2 I0) fun v3=>Br v3 (K a0) (Pv (lenV a0) fun v4=>Pv (AC .eql a1 v4) fun v5=>Br v5 (App 9 1 16 #[(Value.string (ByteArray.mk #[]))] a0 a2<|gh fun v6=>K v6) (Pv (AC .add v4 v2) fun v7=>Pv (Vn a0) fun v8=>Pv (AC .gtr v7 v8) fun v9=>Br v9 (Pv (BL 1 a0 none (some a1) none) fun v10=>Pv (AC .add v4 v2) fun v11=>Pv (AC .sub v11 a1) fun v12=>AFe 9 1 16 #[(Value.string (ByteArray.mk #[]))] v10 v12<|gh fun v13=>Pv (BL 1 v13 (some a1) none none) fun v14=>HX 1 v14 a2<|gh fun v15=>Ac fun S=>Pv (AC .add a1 v2) fun v16=>Pv (BL 1 v13 (some v16) none none) fun v17=>Pv (BL 1 a0 (some a1) none none) fun v18=>HX 1 v17 v18<|gh fun v19=>K v13) (Pv (AC .add v4 v2) fun v20=>Pv (BL 1 a0 none (some v20) none) fun v21=>Pv (AC .add a1 v2) fun v22=>Pv (BL 1 v21 (some v22) none none) fun v23=>Og Tryz.prog ω (Extern.SlicesOverlaps.overlaps #[177,177] #[4]) #[a2,v23]<|gh fun v24=>Pv (unV .not v24) fun v25=>Br v25 (Ac fun S=>Pv (AC .add a1 v2) fun v26=>Pv (BL 1 v21 (some v26) none none) fun v27=>Pv (BL 1 v21 (some a1) none none) fun v28=>HX 1 v27 v28<|gh fun v29=>Pv (BL 1 v21 (some a1) none none) fun v30=>HX 1 v30 a2<|gh fun v31=>K v21) (Pv (BL 1 v21 (some v4) none none) fun v32=>HX 1 v32 a2<|gh fun v33=>Pv (BL 1 v21 (some a1) none none) fun v34=>CT ω 268 #[v34,v2]<|gh fun v35=>K v21))))
theorem Wn (ω:Om)(a0 a1 a2:Value)(K:Value→M):vcF Tryz.prog ω Tryz.f242 [a0,a1,a2] K=Wo ω a0 a1 a2 K:=by kernel_rfl
theorem AHQ (h:Wo ω a0 a1 a2 (fun v=>Gh (K v)) I L):CT ω 242 #[a0,a1,a2] K I L:=Cal.gh (AG mixed Tryz.func242 (by rw [Wn];exact h))
def Wm (ω:Om)(a0 a1:Value)(K:Value→M):M:=Og Tryz.prog ω Extern.BytealgIndexByte.indexByte #[a0,a1]<|gh fun v1=>K v1
theorem Wl (ω:Om)(a0 a1:Value)(K:Value→M):vcF Tryz.prog ω Tryz.f243 [a0,a1] K=Wm ω a0 a1 K:=by kernel_rfl
theorem AHP (h:Wm ω a0 a1 (fun v=>Gh (K v)) I L):CT ω 243 #[a0,a1] K I L:=Cal.gh (AG mixed Tryz.func243 (by rw [Wl];exact h))
def Wk (ω:Om)(a0:Value)(K:Value→M):M:=Pv (Ao .neq a0 a0) fun v1=>K v1
theorem Wj (ω:Om)(a0:Value)(K:Value→M):vcF Tryz.prog ω Tryz.f244 [a0] K=Wk ω a0 K:=by kernel_rfl
theorem AHO (h:Wk ω a0 (fun v=>Gh (K v)) I L):CT ω 244 #[a0] K I L:=Cal.gh (AG mixed Tryz.func244 (by rw [Wj];exact h))
def Wi (ω:Om)(a0:Value)(K:Value→M):M:=Pv (AC .neq a0 a0) fun v1=>K v1
theorem Wh (ω:Om)(a0:Value)(K:Value→M):vcF Tryz.prog ω Tryz.f245 [a0] K=Wi ω a0 K:=by kernel_rfl
theorem AHN (h:Wi ω a0 (fun v=>Gh (K v)) I L):CT ω 245 #[a0] K I L:=Cal.gh (AG mixed Tryz.func245 (by rw [Wh];exact h))
def Wg (ω:Om)(a0 a1 a2:Value)(K:Value→M):M:=Pv (lenV a0) fun v1=>Pv (BL 1 a0 (some a1) (some a2) (some v1)) fun v2=>Pv (AC .eql a1 a2) fun v3=>Br v3 (K a0) (Pv (lenV a0) fun v4=>Ac fun S=>Pv (BL 1 a0 none (some a1) none) fun v5=>Pv (BL 1 a0 (some a2) none none) fun v6=>App 9 1 16 #[(Value.string (ByteArray.mk #[]))] v5 v6<|gh fun v7=>Pv (lenV v7) fun v8=>Pv (BL 1 v7 (some v8) (some v4) none) fun v9=>AFd #[(Value.string (ByteArray.mk #[]))] v9<|gh fun _=>K v7)
theorem Wf (ω:Om)(a0 a1 a2:Value)(K:Value→M):vcF Tryz.prog ω Tryz.f246 [a0,a1,a2] K=Wg ω a0 a1 a2 K:=by kernel_rfl
theorem AHM (h:Wg ω a0 a1 a2 (fun v=>Gh (K v)) I L):CT ω 246 #[a0,a1,a2] K I L:=Cal.gh (AG mixed Tryz.func246 (by rw [Wf];exact h))
def Sb (ω:Om)(p0 p1:Value)(p7 x4 x8:Value)(Kn0:(Value×Value×Unit)→M)(K:Value→M):M:=Pv (AC .lss x8 p7) fun v2=>Br v2 (Pv (ixV 4 p0 x8) fun v3=>Rn (AF 4 v3) fun v4=>CW ω p1 #[v4]<|gh fun v5=>Br v5 (K x8) (Pv (AC .add x8 (.int .i64 1)) fun v6=>Kn0 (x4,v6,()))) (K (.int .i64 (-1)))
def We (ω:Om)(a0 a1:Value)(K:Value→M):M:=Pv (lenV a0) fun v1=>Aj ((I0,I0,()):Value×Value×Unit) fun s Kn0=>Sb ω a0 a1 v1 s.1 s.2.1 Kn0 K
theorem Wd (ω:Om)(a0 a1:Value)(K:Value→M):vcF Tryz.prog ω Tryz.f247 [a0,a1] K=We ω a0 a1 K:=by kernel_rfl
theorem AHL (h:We ω a0 a1 (fun v=>Gh (K v)) I L):CT ω 247 #[a0,a1] K I L:=Cal.gh (AG mixed Tryz.func247 (by rw [Wd];exact h))
def Wc (ω:Om)(a0:Value)(K:Value→M):M:=Ay 5 1 #[(.int .u8 0)] 1 [(0,(.int .u8 0))]<|gh fun v1=>Ay 5 1 #[(.int .u8 0)] 2 [(0,(.int .u8 0)),(1,(.int .u8 255))]<|gh fun v2=>CT ω 276 #[a0,v1,v2]<|gh fun v3=>Ay 5 1 #[(.int .u8 0)] 2 [(0,(.int .u8 0)),(1,(.int .u8 1))]<|gh fun v4=>Ay 29 1 #[S0] 2 [(0,v3),(1,v4)]<|gh fun v5=>CT ω 277 #[v5]<|gh fun v6=>K v6
theorem Wb (ω:Om)(a0:Value)(K:Value→M):vcF Tryz.prog ω Tryz.f265 [a0] K=Wc ω a0 K:=by kernel_rfl
theorem AHK (h:Wc ω a0 (fun v=>Gh (K v)) I L):CT ω 265 #[a0] K I L:=Cal.gh (AG mixed Tryz.func265 (by rw [Wb];exact h))
def Wa (ω:Om)(a0 a1 a2:Value)(K:Value→M):M:=CT ω 281 #[a0,a1,a2,(.int .i64 (-1))]<|gh fun v1=>K v1
theorem WZ (ω:Om)(a0 a1 a2:Value)(K:Value→M):vcF Tryz.prog ω Tryz.f276 [a0,a1,a2] K=Wa ω a0 a1 a2 K:=by kernel_rfl
theorem AHJ (h:Wa ω a0 a1 a2 (fun v=>Gh (K v)) I L):CT ω 276 #[a0,a1,a2] K I L:=Cal.gh (AG mixed Tryz.func276 (by rw [WZ];exact h))
def SZ (ω:Om)(p3 p11:Value)(Kn0:(Value×Value×Unit)→M)(K:Value→M):M:=Pv (AC .add p11 (.int .i64 1)) fun v8=>Kn0 (p3,v8,())
def SW (ω:Om)(p2 p25:Value)(p26 x6 x27:Value)(Kn1:(Value×Value×Unit)→M)(K:Value→M):M:=Pv (AC .lss x27 p26) fun v11=>Br v11 (Pv (ixV 1 p25 x27) fun v12=>Rn (AB v12) fun v13=>App 5 1 1 #[(.int .u8 0)] x6 v13<|gh fun v14=>Pv (AC .add x27 (.int .i64 1)) fun v15=>Kn1 (v14,v15,())) (K x6)
def SY (ω:Om)(p0 p2 p3:Value)(K:Value→M):M:=CT ω 282 #[S0,p3]<|gh fun v9=>Pv (lenV p0) fun v10=>Aj ((v9,I0,()):Value×Value×Unit) fun s Kn1=>SW ω p2 p0 v10 s.1 s.2.1 Kn1 K
def Sa (ω:Om)(p0 p2:Value)(p9 p10:Value)(x3 x11:Value)(Kn0:(Value×Value×Unit)→M)(K:Value→M):M:=Pv (AC .lss x11 p10) fun v2=>Br v2 (Pv (ixV 1 p9 x11) fun v3=>Rn (AB v3) fun v4=>Pv (lenV v4) fun v5=>Pv (AC .add x3 v5) fun v6=>Pv (AC .lss v6 I0) fun v7=>Br v7 (F /- panic -/) (SZ ω v6 x11 Kn0 K)) (SY ω p0 p2 x3 K)
def WY (ω:Om)(a0:Value)(K:Value→M):M:=Pv (lenV a0) fun v1=>Aj ((I0,I0,()):Value×Value×Unit) fun s Kn0=>Sa ω a0 S0 a0 v1 s.1 s.2.1 Kn0 K
theorem WX (ω:Om)(a0:Value)(K:Value→M):vcF Tryz.prog ω Tryz.f277 [a0] K=WY ω a0 K:=by kernel_rfl
theorem AHI (h:WY ω a0 (fun v=>Gh (K v)) I L):CT ω 277 #[a0] K I L:=Cal.gh (AG mixed Tryz.func277 (by rw [WX];exact h))
def Nm (ω:Om)(p0 p8:Value)(p10 p11 p12:Value)(K:Value→M):M:=Ac fun S=>Pv (BL 1 p10 (some p11) none none) fun v30=>Pv (BL 1 p0 (some p12) none none) fun v31=>HX 1 v30 v31<|gh fun v32=>Pv (AC .add p11 v32) fun v33=>Pv (BL 1 p10 (some I0) (some v33) none) fun v34=>K v34
def SV (ω:Om)(p0 p1:Value)(p2 p8:Value)(p10 p48:Value)(x11 x12 x49:Value)(Kn0:(Value×Value×Value×Unit)→M)(K:Value→M):M:=Pv (AC .lss x49 p48) fun v16=>Br v16 (Pv (BL 1 p0 (some x12) none none) fun v17=>CT ω 285 #[v17,p1]<|gh fun v18=>Pv (AC .add x12 v18) fun v19=>Ac fun S=>Pv (BL 1 p10 (some x11) none none) fun v20=>Pv (BL 1 p0 (some x12) (some v19) none) fun v21=>HX 1 v20 v21<|gh fun v22=>Pv (AC .add x11 v22) fun v23=>Pv (BL 1 p10 (some v23) none none) fun v24=>HX 1 v24 p2<|gh fun v25=>Pv (AC .add v23 v25) fun v26=>Pv (lenV p1) fun v27=>Pv (AC .add v19 v27) fun v28=>Pv (AC .add x49 (.int .i64 1)) fun v29=>Kn0 (v26,v28,v29,())) (Nm ω p0 p8 p10 x11 x12 K)
def AER (ω:Om)(p0 p2:Value)(p8 p10:Value)(p88 x11:Value)(x12 x89:Value)(Kn0:(Value×Value×Value×Unit)→M)(K:Value→M):M:=Pv (AC .lss x89 p88) fun v39=>Br v39 (Pv (BL 1 p0 (some x12) none none) fun v40=>CT ω 286 #[v40]<|gh fun v41=>Pv (exV v41 0) fun v42=>Pv (exV v41 1) fun v43=>Pv (AC .add x12 v43) fun v44=>Ac fun S=>Pv (BL 1 p10 (some x11) none none) fun v45=>Pv (BL 1 p0 (some x12) (some v44) none) fun v46=>HX 1 v45 v46<|gh fun v47=>Pv (AC .add x11 v47) fun v48=>Pv (BL 1 p10 (some v48) none none) fun v49=>HX 1 v49 p2<|gh fun v50=>Pv (AC .add v48 v50) fun v51=>Pv (AC .add x89 (.int .i64 1)) fun v52=>Kn0 (v51,v44,v52,())) (Nm ω p0 p8 p10 x11 x12 K)
def Jl (ω:Om)(p0 p1:Value)(p2 p3 p8:Value)(K:Value→M):M:=Pv (lenV p0) fun v7=>Pv (lenV p2) fun v8=>Pv (lenV p1) fun v9=>Pv (AC .sub v8 v9) fun v10=>Pv (AC .mul p3 v10) fun v11=>Pv (AC .add v7 v11) fun v12=>MkS 5 1 #[(.int .u8 0)] v12 v12<|gh fun v13=>Pv (lenV p1) fun v14=>Pv (AC .gtr v14 I0) fun v15=>Br v15 (Aj ((I0,I0,I0,()):Value×Value×Value×Unit) fun s Kn0=>SV ω p0 p1 p2 p8 v13 p3 s.1 s.2.1 s.2.2.1 Kn0 K) (Pv (BL 1 v13 (some I0) none none) fun v35=>HX 1 v35 p2<|gh fun v36=>Pv (AC .add I0 v36) fun v37=>Pv (AC .sub p3 (.int .i64 1)) fun v38=>Aj ((v37,I0,I0,()):Value×Value×Value×Unit) fun s Kn0=>AER ω p0 p2 p8 v13 v38 s.1 s.2.1 s.2.2.1 Kn0 K)
def Nn (ω:Om)(p0 p1:Value)(p2 p3:Value)(p8 p9:Value)(K:Value→M):M:=Pv (AC .eql p9 I0) fun v3=>Br v3 (App 5 1 1 #[(.int .u8 0)] S0 p0<|gh fun v4=>K v4) (Pv (AC .lss p3 I0) fun v5=>Gd v5 false (Pv (AC .lss p9 p3) fun v6=>Br v6 (Jl ω p0 p1 p2 p9 p8 K) (Jl ω p0 p1 p2 p3 p8 K)) (Jl ω p0 p1 p2 p9 p8 K))
def WW (ω:Om)(a0 a1:Value)(a2 a3:Value)(K:Value→M):M:=Pv (AC .neq a3 I0) fun v1=>Br v1 (CT ω 284 #[a0,a1]<|gh fun v2=>Nn ω a0 a1 a2 a3 S0 v2 K) (Nn ω a0 a1 a2 a3 S0 I0 K)
theorem WV (ω:Om)(a0 a1 a2 a3:Value)(K:Value→M):vcF Tryz.prog ω Tryz.f281 [a0,a1,a2,a3] K=WW ω a0 a1 a2 a3 K:=by kernel_rfl
theorem AHH (h:WW ω a0 a1 a2 a3 (fun v=>Gh (K v)) I L):CT ω 281 #[a0,a1,a2,a3] K I L:=Cal.gh (AG mixed Tryz.func281 (by rw [WV];exact h))
def SU (ω:Om)(p0 p1 p4:Value)(K:Value→M):M:=Pv (Vn p0) fun v2=>Pv (lenV p0) fun v3=>Pv (AC .sub v2 v3) fun v4=>Pv (AC .sub p1 v4) fun v5=>Pv (AC .gtr v5 I0) fun v6=>Br v6 (Pv (Vn p0) fun v7=>Pv (BL 1 p0 none (some v7) none) fun v8=>AFe 5 1 1 #[(.int .u8 0)] v8 v5<|gh fun v9=>Pv (lenV p0) fun v10=>Pv (BL 1 v9 none (some v10) none) fun v11=>K v11) (K p0)
def WU (ω:Om)(a0 a1:Value)(K:Value→M):M:=Pv (AC .lss a1 I0) fun v1=>Br v1 (F /- panic -/) (SU ω a0 a1 S0 K)
theorem WT (ω:Om)(a0 a1:Value)(K:Value→M):vcF Tryz.prog ω Tryz.f282 [a0,a1] K=WU ω a0 a1 K:=by kernel_rfl
theorem AHG (h:WU ω a0 a1 (fun v=>Gh (K v)) I L):CT ω 282 #[a0,a1] K I L:=Cal.gh (AG mixed Tryz.func282 (by rw [WT];exact h))
def AEQ (ω:Om)(p1 x0:Value)(x4 x5:Value)(Kn0:(Value×Value×Value×Unit)→M)(K:Value→M):M:=CT ω 285 #[x0,p1]<|gh fun v10=>Pv (AC .eql v10 (.int .i64 (-1))) fun v11=>Br v11 (K x5) (Pv (AC .add x5 (.int .i64 1)) fun v12=>Pv (lenV p1) fun v13=>Pv (AC .add v10 v13) fun v14=>Pv (BL 1 x0 (some v14) none none) fun v15=>Kn0 (v15,x4,v12,()))
def WS (ω:Om)(a0 a1:Value)(K:Value→M):M:=Pv (lenV a1) fun v1=>Pv (AC .eql v1 I0) fun v2=>Br v2 (CT ω 287 #[a0]<|gh fun v3=>Pv (AC .add v3 (.int .i64 1)) fun v4=>K v4) (Pv (lenV a1) fun v5=>Pv (AC .eql v5 (.int .i64 1)) fun v6=>Br v6 (Pv (ixV 1 a1 I0) fun v7=>Rn (AB v7) fun v8=>Og Tryz.prog ω Extern.BytealgCount.count #[a0,v8]<|gh fun v9=>K v9) (Aj ((a0,I0,I0,()):Value×Value×Value×Unit) fun s Kn0=>AEQ ω a1 s.1 s.2.1 s.2.2.1 Kn0 K))
theorem WR (ω:Om)(a0 a1:Value)(K:Value→M):vcF Tryz.prog ω Tryz.f284 [a0,a1] K=WS ω a0 a1 K:=by kernel_rfl
theorem AHF (h:WS ω a0 a1 (fun v=>Gh (K v)) I L):CT ω 284 #[a0,a1] K I L:=Cal.gh (AG mixed Tryz.func284 (by rw [WR];exact h))
theorem AFw:AW Zh #[(0,1),(1,1)] []=some (.agg Zh):=by kernel_rfl
theorem AFv (x0:Int)(x1:Int)(x2:Int)(x3:Option Addr)(x4:Nat)(x5:Nat)(x6:Option Addr)(x7:Nat)(x8:Nat):AW Zq Zw [(0,.int .i64 x0),(1,.int .i64 x1),(2,.int .i64 x2),(8,.slice x3 x4 x5),(9,.slice x6 x7 x8)]=some (.agg #[.int .i64 x0,.int .i64 x1,.int .i64 x2,(.int .i64 0),(.int .i64 0),(.int .i64 0),(.int .i64 0),(.int .i64 0),(.bool false),(.bool false),.slice x3 x4 x5,.slice x6 x7 x8,(.slice none 0 0),(.slice none 0 0),(.int .i64 0)]):=by kernel_rfl
theorem AFu (x0:Int)(x1:Int)(x2:Option Addr)(x3:Nat)(x4:Nat):AW Zq Zw [(0,.int .i64 x0),(1,.int .i64 x1),(8,.slice x2 x3 x4)]=some (.agg #[.int .i64 x0,.int .i64 x1,(.int .i64 0),(.int .i64 0),(.int .i64 0),(.int .i64 0),(.int .i64 0),(.int .i64 0),(.bool false),(.bool false),.slice x2 x3 x4,(.slice none 0 0),(.slice none 0 0),(.slice none 0 0),(.int .i64 0)]):=by kernel_rfl
theorem AFt:AW Zt Zo []=some (.agg Zt):=by kernel_rfl
theorem AFs (x0:Option Addr)(x1:Nat)(x2:Nat)(x3:Option Addr)(x4:Nat)(x5:Nat)(x6:Option Addr):AW Zx Zy [(0,.agg #[.slice x0 x1 x2,.slice x3 x4 x5]),(1,.pointer x6)]=some (.agg #[.slice x0 x1 x2,.slice x3 x4 x5,.pointer x6,(.slice none 0 0),(.slice none 0 0),(.int .i64 0),(.int .i64 0),(.int .i64 0),(.slice none 0 0),(.slice none 0 0),(.int .i64 0)]):=by kernel_rfl
theorem AFr (x0:Int):AW Za Zc [(0,.int .i64 x0)]=some (.agg #[.int .i64 x0,(.bool false),(.slice none 0 0),(.int .i64 0),(.int .i64 0),(.int .i64 0),(.slice none 0 0),(.int .i64 0),(.int .i64 0),(.int .i64 0),(.int .i64 0)]):=by kernel_rfl
theorem AFq (x0:Int)(x1:Int):AW Za Zc [(0,.int .i64 x0),(4,.int .i64 x1)]=some (.agg #[.int .i64 x0,(.bool false),(.slice none 0 0),(.int .i64 0),(.int .i64 0),(.int .i64 0),(.slice none 0 0),(.int .i64 0),(.int .i64 0),.int .i64 x1,(.int .i64 0)]):=by kernel_rfl
theorem AFp (x0:Bool)(x1:Option Addr)(x2:Nat)(x3:Nat)(x4:Int)(x5:Int)(x6:Int):AW Za Zc [(1,.agg #[.bool x0,.slice x1 x2 x3,.int .i64 x4,.int .i64 x5,.int .i64 x6])]=some (.agg #[(.int .i64 0),.bool x0,.slice x1 x2 x3,.int .i64 x4,.int .i64 x5,.int .i64 x6,(.slice none 0 0),(.int .i64 0),(.int .i64 0),(.int .i64 0),(.int .i64 0)]):=by kernel_rfl
theorem AFo (x0:Option Addr)(x1:Nat)(x2:Nat):AW Za Zc [(2,.slice x0 x1 x2)]=some (.agg #[(.int .i64 0),(.bool false),(.slice none 0 0),(.int .i64 0),(.int .i64 0),(.int .i64 0),.slice x0 x1 x2,(.int .i64 0),(.int .i64 0),(.int .i64 0),(.int .i64 0)]):=by kernel_rfl
theorem ACv:AW #[(.slice none 0 0)] #[(0,1)] []=some (.agg #[(.slice none 0 0)]):=by kernel_rfl
theorem ACu:AW Zb #[(0,1),(1,1)] []=some (.agg Zb):=by kernel_rfl
theorem ACt (x0:Option Addr)(x1:Nat)(x2:Nat):AW #[(.slice none 0 0),(.bool false)] #[(0,1),(1,1)] [(0,.slice x0 x1 x2)]=some (.agg #[.slice x0 x1 x2,(.bool false)]):=by kernel_rfl
theorem ACs (x0:Int)(x1:Int)(x2:Int)(x3:Int)(x4:Int):AW Zq Zw [(0,.int .i64 x0),(1,.int .i64 x1),(2,.int .i64 x2),(5,.int .i64 x3),(11,.int .i64 x4)]=some (.agg #[.int .i64 x0,.int .i64 x1,.int .i64 x2,(.int .i64 0),(.int .i64 0),(.int .i64 0),(.int .i64 0),.int .i64 x3,(.bool false),(.bool false),(.slice none 0 0),(.slice none 0 0),(.slice none 0 0),(.slice none 0 0),.int .i64 x4]):=by kernel_rfl
theorem ACr:AW Zq Zw []=some (.agg Zq):=by kernel_rfl
theorem ACq (x0:Int)(x1:Int)(x2:Int):AW Za Zc [(0,.int .i64 x0),(5,.int .i64 x1),(4,.int .i64 x2)]=some (.agg #[.int .i64 x0,(.bool false),(.slice none 0 0),(.int .i64 0),(.int .i64 0),(.int .i64 0),(.slice none 0 0),(.int .i64 0),(.int .i64 0),.int .i64 x2,.int .i64 x1]):=by kernel_rfl
theorem ACp (x0:Option Addr)(x1:Nat)(x2:Nat)(x3:Option Addr)(x4:Nat)(x5:Nat):AW Zh #[(0,1),(1,1)] [(0,.slice x0 x1 x2),(1,.slice x3 x4 x5)]=some (.agg #[.slice x0 x1 x2,.slice x3 x4 x5]):=by kernel_rfl
theorem ACo:AW Za Zc []=some (.agg Za):=by kernel_rfl
theorem ACn (x0:Option Addr)(x1:Nat)(x2:Nat)(x3:Option Addr)(x4:Nat)(x5:Nat):AW #[(.bool false),(.slice none 0 0),(.slice none 0 0)] #[(0,1),(1,1),(2,1)] [(1,.slice x0 x1 x2),(2,.slice x3 x4 x5)]=some (.agg #[(.bool false),.slice x0 x1 x2,.slice x3 x4 x5]):=by kernel_rfl
theorem ACm (x0:Option Addr)(x1:Nat)(x2:Nat)(x3:Option Addr)(x4:Nat)(x5:Nat)(x6:Option Addr)(x7:Option Nat)(x8:Option Nat)(x9:Option Nat):AW #[(.slice none 0 0),(.slice none 0 0),(.pointer none),(Value.map none),(.int .i64 0),(.int .i64 0),(.int .i64 0),(Value.map none),(Value.map none),(.int .i64 0),(.slice none 0 0)] #[(0,2),(2,1),(3,1),(4,3),(7,1),(8,1),(9,1),(10,1)] [(0,.agg #[.slice x0 x1 x2,.slice x3 x4 x5]),(1,.pointer x6),(2,.map x7),(4,.map x8),(5,.map x9)]=some (.agg #[.slice x0 x1 x2,.slice x3 x4 x5,.pointer x6,.map x7,(.int .i64 0),(.int .i64 0),(.int .i64 0),.map x8,.map x9,(.int .i64 0),(.slice none 0 0)]):=by kernel_rfl
theorem ACl (x0:Option Nat)(x1:Option Nat):AW #[(Value.map none),(.slice none 0 0),(.int .i64 0),(.int .i64 0),(Value.map none)] Zj [(0,.map x0),(3,.map x1)]=some (.agg #[.map x0,(.slice none 0 0),(.int .i64 0),(.int .i64 0),.map x1]):=by kernel_rfl
theorem ACk:AW Ze Zj []=some (.agg Ze):=by kernel_rfl
theorem ACj (x0:Option Addr)(x1:Nat)(x2:Nat):AW Zi #[(0,1),(1,2),(3,1)] [(0,.slice x0 x1 x2)]=some (.agg #[.slice x0 x1 x2,(.int .i64 0),(.int .i64 0),(.int .i64 0)]):=by kernel_rfl
theorem ACi (x0:Int)(x1:Int):AW Zt Zo [(2,.agg #[.int .i64 x0,.int .i64 x1])]=some (.agg #[(.slice none 0 0),(.slice none 0 0),.int .i64 x0,.int .i64 x1]):=by kernel_rfl
theorem ACh (x0:Option Addr)(x1:Nat)(x2:Nat)(x3:Option Addr)(x4:Nat)(x5:Nat)(x6:Option Addr)(x7:Option Addr)(x8:Nat)(x9:Nat)(x10:Int)(x11:Int)(x12:Int)(x13:Int):AW Zx Zy [(0,.agg #[.slice x0 x1 x2,.slice x3 x4 x5]),(1,.pointer x6),(3,.agg #[.slice x7 x8 x9,.int .i64 x10,.int .i64 x11,.int .i64 x12]),(6,.int .i64 x13)]=some (.agg #[.slice x0 x1 x2,.slice x3 x4 x5,.pointer x6,(.slice none 0 0),.slice x7 x8 x9,.int .i64 x10,.int .i64 x11,.int .i64 x12,(.slice none 0 0),(.slice none 0 0),.int .i64 x13]):=by kernel_rfl
theorem ACg (x0:Int)(x1:Int):AW Zb #[(0,1),(1,1)] [(0,.int .i64 x0),(1,.int .i64 x1)]=some (.agg #[.int .i64 x0,.int .i64 x1]):=by kernel_rfl
theorem ACf (x0:Option Nat)(x1:Option Addr)(x2:Nat)(x3:Nat)(x4:Int)(x5:Int)(x6:Option Nat):AW #[(Value.map none),(.slice none 0 0),(.int .i64 0),(.int .i64 0),(Value.map none)] Zj [(0,.map x0),(1,.slice x1 x2 x3),(2,.agg #[.int .i64 x4,.int .i64 x5]),(3,.map x6)]=some (.agg #[.map x0,.slice x1 x2 x3,.int .i64 x4,.int .i64 x5,.map x6]):=by kernel_rfl
theorem ACe (x0:Int)(x1:Int)(x2:Int):AW Zg #[(0,2),(2,1)] [(0,.agg #[.int .i64 x0,.int .i64 x1]),(1,.int .i64 x2)]=some (.agg #[.int .i64 x0,.int .i64 x1,.int .i64 x2]):=by kernel_rfl
theorem ACd (x0:Int)(x1:Int)(x2:Int):AW Zg #[(0,1),(1,2)] [(0,.int .i64 x0),(1,.agg #[.int .i64 x1,.int .i64 x2])]=some (.agg #[.int .i64 x0,.int .i64 x1,.int .i64 x2]):=by kernel_rfl
theorem ACc (x0:Int)(x1:Int)(x2:Int)(x3:Int):AW Zl Zo [(0,.int .i64 x0),(1,.int .i64 x1),(2,.agg #[.int .i64 x2,.int .i64 x3])]=some (.agg #[.int .i64 x0,.int .i64 x1,.int .i64 x2,.int .i64 x3]):=by kernel_rfl
theorem ACb (x0:Int)(x1:Int)(x2:Int)(x3:Int):AW Za Zc [(0,.int .i64 x0),(3,.agg #[.int .i64 x1,.int .i64 x2]),(4,.int .i64 x3)]=some (.agg #[.int .i64 x0,(.bool false),(.slice none 0 0),(.int .i64 0),(.int .i64 0),(.int .i64 0),(.slice none 0 0),.int .i64 x1,.int .i64 x2,.int .i64 x3,(.int .i64 0)]):=by kernel_rfl
theorem ACa (x0:Option Addr)(x1:Nat)(x2:Nat)(x3:Int)(x4:Int)(x5:Int)(x6:Bool)(x7:Option Addr)(x8:Nat)(x9:Nat):AW Zf Zr [(0,.slice x0 x1 x2),(1,.int .i64 x3),(2,.agg #[.int .i64 x4,.int .i64 x5]),(3,.bool x6),(4,.slice x7 x8 x9)]=some (.agg #[.slice x0 x1 x2,.int .i64 x3,.int .i64 x4,.int .i64 x5,.bool x6,.slice x7 x8 x9]):=by kernel_rfl
theorem ACZ (x0:Int):AW Za Zc [(5,.int .i64 x0)]=some (.agg #[(.int .i64 0),(.bool false),(.slice none 0 0),(.int .i64 0),(.int .i64 0),(.int .i64 0),(.slice none 0 0),(.int .i64 0),(.int .i64 0),(.int .i64 0),.int .i64 x0]):=by kernel_rfl
theorem ACY (x0:Int)(x1:Int)(x2:Int):AW Za Zc [(5,.int .i64 x0),(3,.agg #[.int .i64 x1,.int .i64 x2])]=some (.agg #[(.int .i64 0),(.bool false),(.slice none 0 0),(.int .i64 0),(.int .i64 0),(.int .i64 0),(.slice none 0 0),.int .i64 x1,.int .i64 x2,(.int .i64 0),.int .i64 x0]):=by kernel_rfl
theorem ACX (x0:Bool)(x1:Option Addr)(x2:Nat)(x3:Nat)(x4:Int)(x5:Int):AW Ze Zj [(0,.bool x0),(1,.slice x1 x2 x3),(2,.agg #[.int .i64 x4,.int .i64 x5])]=some (.agg #[.bool x0,.slice x1 x2 x3,.int .i64 x4,.int .i64 x5,(.int .i64 0)]):=by kernel_rfl
theorem ACW (x0:Int):AW Ze Zj [(3,.int .i64 x0)]=some (.agg #[(.bool false),(.slice none 0 0),(.int .i64 0),(.int .i64 0),.int .i64 x0]):=by kernel_rfl
theorem ACV (x0:Int)(x1:Int):AW Za Zc [(0,.int .i64 x0),(5,.int .i64 x1)]=some (.agg #[.int .i64 x0,(.bool false),(.slice none 0 0),(.int .i64 0),(.int .i64 0),(.int .i64 0),(.slice none 0 0),(.int .i64 0),(.int .i64 0),(.int .i64 0),.int .i64 x1]):=by kernel_rfl
theorem ACU (x0:Int)(x1:Int)(x2:Bool)(x3:ByteArray)(x4:Int):AW #[(.int .i64 0),(.int .i64 0),(.bool false),(Value.string (ByteArray.mk #[])),(.int .i64 0)] #[(0,4),(4,1)] [(0,.agg #[.int .i64 x0,.int .i64 x1,.bool x2,.string x3]),(1,.int .i64 x4)]=some (.agg #[.int .i64 x0,.int .i64 x1,.bool x2,.string x3,.int .i64 x4]):=by kernel_rfl
theorem ACT (x0:Int)(x1:Int)(x2:Int):AW Za Zc [(0,.int .i64 x0),(3,.agg #[.int .i64 x1,.int .i64 x2])]=some (.agg #[.int .i64 x0,(.bool false),(.slice none 0 0),(.int .i64 0),(.int .i64 0),(.int .i64 0),(.slice none 0 0),.int .i64 x1,.int .i64 x2,(.int .i64 0),(.int .i64 0)]):=by kernel_rfl
theorem ACS (x0:Int)(x1:Int)(x2:Bool)(x3:ByteArray):AW #[(.int .i64 0),(.int .i64 0),(.bool false),(Value.string (ByteArray.mk #[]))] #[(0,2),(2,1),(3,1)] [(0,.agg #[.int .i64 x0,.int .i64 x1]),(1,.bool x2),(2,.string x3)]=some (.agg #[.int .i64 x0,.int .i64 x1,.bool x2,.string x3]):=by kernel_rfl
theorem ACR:AW #[(.int .i64 0),(.int .i64 0),(.bool false),(Value.string (ByteArray.mk #[])),(.int .i64 0)] #[(0,4),(4,1)] []=some (.agg #[(.int .i64 0),(.int .i64 0),(.bool false),(Value.string (ByteArray.mk #[])),(.int .i64 0)]):=by kernel_rfl
theorem ACQ:AW Zf Zr []=some (.agg Zf):=by kernel_rfl
theorem ACP:AW Zd Zv []=some (.agg Zd):=by kernel_rfl
theorem ACO (x0:Int)(x1:Int)(x2:Int)(x3:Int)(x4:Int):AW Zm #[(0,1),(1,1),(2,1),(3,2)] [(0,.int .i64 x0),(1,.int .i64 x1),(2,.int .i64 x2),(3,.agg #[.int .i64 x3,.int .i64 x4])]=some (.agg #[.int .i64 x0,.int .i64 x1,.int .i64 x2,.int .i64 x3,.int .i64 x4]):=by kernel_rfl
theorem ACN (x0:Option Addr)(x1:Nat)(x2:Nat)(x3:Int)(x4:Int)(x5:Bool)(x6:Option Addr)(x7:Nat)(x8:Nat):AW Zd Zv [(0,.slice x0 x1 x2),(1,.agg #[.int .i64 x3,.int .i64 x4]),(2,.bool x5),(3,.slice x6 x7 x8)]=some (.agg #[.slice x0 x1 x2,.int .i64 x3,.int .i64 x4,.bool x5,.slice x6 x7 x8]):=by kernel_rfl
theorem ACM (x0:Bool)(x1:Option Addr)(x2:Nat)(x3:Nat)(x4:Option Addr)(x5:Nat)(x6:Nat):AW #[(.bool false),(.slice none 0 0),(.slice none 0 0)] #[(0,1),(1,1),(2,1)] [(0,.bool x0),(1,.slice x1 x2 x3),(2,.slice x4 x5 x6)]=some (.agg #[.bool x0,.slice x1 x2 x3,.slice x4 x5 x6]):=by kernel_rfl
theorem ACL:AW #[(.int .i64 0),(.int .i64 0),(.bool false),(Value.string (ByteArray.mk #[]))] #[(0,2),(2,1),(3,1)] []=some (.agg #[(.int .i64 0),(.int .i64 0),(.bool false),(Value.string (ByteArray.mk #[]))]):=by kernel_rfl
theorem ACK (x0:Bool)(x1:ByteArray):AW #[(.int .i64 0),(.int .i64 0),(.bool false),(Value.string (ByteArray.mk #[]))] #[(0,2),(2,1),(3,1)] [(1,.bool x0),(2,.string x1)]=some (.agg #[(.int .i64 0),(.int .i64 0),.bool x0,.string x1]):=by kernel_rfl
theorem ACJ:AW #[(.slice none 0 0),(.int .i64 0),(.int .i64 0),(.bool false),(Value.string (ByteArray.mk #[])),(.int .i64 0)] #[(0,1),(1,5)] []=some (.agg #[(.slice none 0 0),(.int .i64 0),(.int .i64 0),(.bool false),(Value.string (ByteArray.mk #[])),(.int .i64 0)]):=by kernel_rfl
theorem ACI (x0:Int):AW Zb #[(0,1),(1,1)] [(0,.int .i64 x0)]=some (.agg #[.int .i64 x0,(.int .i64 0)]):=by kernel_rfl
end Go.Proofs.YtmmfcgbfbcamcaaGreatDoor
namespace Go.SL
def SlI (I:Imm)(n:Nat)(v:Value)(cells:List Value)(len:Nat):Prop:=
 cells.length=len * n∧∃a cap,v= .slice a len cap∧len≤cap∧
  (len≠0→∃b off cs T fr,a=some ⟨b,off,none⟩∧I b=some (Obj.cells cs T fr)∧∀j u,cells[j]? =some u→cs[off+j]? =some u)
theorem SlI.mono {I I':Imm}{n len:Nat}{v:Value}{cells:List Value}(h:SlI I n v cells len)(hI:Ext I I'):SlI I' n v cells len:=by
 obtain ⟨hl,a,cap,hv,hc,h⟩:=h;refine ⟨hl,a,cap,hv,hc,fun h0=>?_⟩;obtain ⟨b,off,cs,T,fr,ha,hb,hcs⟩:=h h0;exact ⟨b,off,cs,T,fr,ha,hI _ _ hb,hcs⟩
theorem SlI.nil (I:Imm)(n:Nat)(a:Option Addr)(cap:Nat):SlI I n (.slice a 0 cap) [] 0:=⟨by simp,a,cap,rfl,Nat.zero_le _,fun h=>absurd rfl h⟩
theorem SlI.news {I:Imm}{L:LH}{n len:Nat}{v:Value}{cells:List Value}(h:SlI I n v cells len):News n v I L len cells:=by
 obtain ⟨hl,a,cap,rfl,hc,h⟩:=h;by_cases h0:len=0
 ·subst h0;exact .inl ⟨a,cap,rfl,rfl,List.eq_nil_of_length_eq_zero (by simpa using hl)⟩
 ·obtain ⟨b,off,cs,T,fr,rfl,hb,hcs⟩:=h h0;exact .inr (.inl ⟨b,off,cap,rfl,hl,fun j u hu=>Cell.imm hb (hcs j u hu)⟩)
def SlO (T n : Nat) (X : LH) (v : Value) (cells : List Value) (len : Nat) : Prop :=
  cells.length = len * n ∧
  ((X = [] ∧ len = 0 ∧ ∃ a, v = .slice a 0 0) ∨
   (∃ (b cap : Nat) (cs : Array Value), X = [(b, Obj.cells cs T (0, 0))] ∧ v = .slice (some ⟨b, 0, Option.none⟩) len cap ∧ cs.size = cap * n ∧ len ≤ cap ∧ ∀ (j : Nat) (u : Value), cells[j]? = some u → cs[j]? = some u))
theorem SlO.none (T n:Nat):SlO T n [] (.slice none 0 0) [] 0:=⟨by simp,.inl ⟨rfl,rfl,_,rfl⟩⟩
theorem SlO.empty (T n:Nat)(a:Option Addr):SlO T n [] (.slice a 0 0) [] 0:=⟨by simp,.inl ⟨rfl,rfl,_,rfl⟩⟩
theorem SlO.form {T n len:Nat}{X:LH}{v:Value}{cells:List Value}(h:SlO T n X v cells len):∃a cap,v= .slice a len cap:=by
 rcases h.2 with ⟨_,rfl,a,rfl⟩|⟨b,cap,cs,_,rfl,_⟩
 ·exact ⟨a,0,rfl⟩
 ·exact ⟨_,cap,rfl⟩
theorem SlO.news {I:Imm}{T n len:Nat}{X F:LH}{v:Value}{cells:List Value}(h:SlO T n X v cells len)(hF:∀x∈X,x∈F):News n v I F len cells:=by
 obtain ⟨hl,h⟩:=h;rcases h with ⟨rfl,rfl,a,rfl⟩|⟨b,cap,cs,rfl,rfl,hcs,hle,hc⟩
 ·exact .inl ⟨a,0,rfl,rfl,List.eq_nil_of_length_eq_zero (by simpa using hl)⟩
 ·exact .inr (.inl ⟨b,0,cap,rfl,hl,fun j u hu=>Cell.own (hF _ (List.mem_singleton.2 rfl)) (by rw [Nat.zero_add];exact hc j u hu)⟩)
theorem SlO.freeze {A:M}{I:Imm}{T n len:Nat}{X F:LH}{v:Value}{cells:List Value}(h:SlO T n X v cells len)(hk:∀I',Ext I I'→SlI I' n v cells len→Gh A I' F):Gh A I (X++F):=by
 obtain ⟨hl,h⟩:=h;rcases h with ⟨rfl,rfl,a,rfl⟩|⟨b,cap,cs,rfl,rfl,hcs,hle,hc⟩
 ·exact hk I (Ext.refl I) ⟨hl,a,0,rfl,Nat.le_refl _,fun h=>absurd rfl h⟩
 ·exact Gh.freeze fun hext=>hk _ hext ⟨hl,_,cap,rfl,hle,fun _=>⟨b,0,cs,T,(0,0),rfl,by simp [Imm.put],fun j u hu=>by rw [Nat.zero_add];exact hc j u hu⟩⟩
theorem CK (z:Array Value)(k:Nat):(Builtin.zeroCells z k).size=k * z.size:=by simp [Builtin.zeroCells]
theorem Et {I:Imm}{X L F:LH}[hsp:SplitL X L F]{T n bytes len m:Nat}{z:Array Value}{s x:Value}{cells news:List Value}{K:Value→M}(hz:z.size=n)(ho:SlO T n X s cells len)(hn:News n x I L m news)
  (h1:∀u∈news,u.oneCell'=true) (hb:(len+m) * bytes≤150000000000000) (hm:len+m≤150000000000000)
  (hk:∀X' v',SlO T n X' v' (cells++news) (len+m)→Gh (K v') I (X'++F)):App T n bytes z s x (gh K) I L:=by
 have hp:=hsp.perm;obtain ⟨hl,ho'⟩:=ho;have hnl:=hn.length;have hlen:(cells++news).length=(len+m) * n:=by rw [List.length_append,hl,hnl,Nat.add_mul]
 rcases ho' with ⟨rfl,rfl,a,rfl⟩|⟨b,cap,cs,rfl,rfl,hcs,hle,hc⟩
 ·have hce:cells=[]:=List.eq_nil_of_length_eq_zero (by simpa using hl);subst hce;refine ⟨a,0,0,m,news,rfl,hn,h1,?_⟩;by_cases h0:m=0
  ·subst h0;have:news=[]:=List.eq_nil_of_length_eq_zero (by simpa using hnl);subst this;exact .inl ⟨Nat.le_refl _,rfl,Gh.perm hp (hk [] (.slice a 0 0) (SlO.empty T n a))⟩
  ·refine .inr (.inr ⟨by omega,hb,hm,[],L,.inl ⟨a,0,rfl,rfl,rfl⟩,List.Sublist.refl _,fun b c hc=>?_⟩);refine Gh.perm (List.Perm.cons _ hp) (hk [(b,_)] _ ⟨hlen,.inr ⟨b,c,_,rfl,rfl,?_,hc,?_⟩⟩)
   ·simp only [List.nil_append,Array.size_append,List.size_toArray,CK,hz,hnl];rw [←Nat.add_mul];congr 1;omega
   ·intro j u hu;simp only [List.nil_append] at hu ⊢;have hlt:j < news.length:=(List.getElem?_eq_some_iff.1 hu).1;rw [Array.getElem?_append_left (by simpa using hlt)];simpa using hu
 ·have hmem:(b,Obj.cells cs T (0,0))∈L:=hp.mem_iff.2 (List.mem_append_left _ (List.mem_singleton.2 rfl));obtain ⟨L1,L2,rfl⟩:=List.append_of_mem hmem;have hF:(L1++L2).Perm F:=by
   have h2:(L1++(b,Obj.cells cs T (0,0))::L2).Perm ((b,Obj.cells cs T (0,0))::(L1++L2)):=List.perm_middle;exact (List.perm_cons _).1 (h2.symm.trans hp)
  refine ⟨_,len,cap,m,news,rfl,hn,h1,?_⟩;by_cases hfit:len+m≤cap
  ·refine .inr (.inl ⟨hfit,b,0,cs,T,L1,L2,rfl,rfl,by rw [hcs,Nat.zero_add];exact Nat.mul_le_mul_right n hfit,?_⟩);refine Gh.perm (List.perm_middle.trans (List.Perm.cons _ hF)) (hk [(b,_)] _ ⟨hlen,.inr ⟨b,cap,_,rfl,rfl,by rw [Bi];exact hcs,hfit,?_⟩⟩);have hroom:0+len * n+news.length≤cs.size:=by
    rw [hcs,hnl,Nat.zero_add,←Nat.add_mul];exact Nat.mul_le_mul_right n hfit
   intro j u hu;rw [CS news cs (0+len * n) j hroom];simp only [Nat.zero_add] at hroom ⊢;by_cases hj:j < len * n
   ·rw [if_pos hj];rw [List.getElem?_append_left (by omega)] at hu;exact hc j u hu
   ·rw [if_neg hj];rw [List.getElem?_append_right (by omega),hl] at hu;have hlt:=(List.getElem?_eq_some_iff.1 hu).1;rw [if_pos (by omega)];exact hu
  ·refine .inr (.inr ⟨by omega,hb,hm,cells,L1++L2,.inr (.inl ⟨b,0,cap,rfl,hl,fun j u hu=>Cell.own hmem (by rw [Nat.zero_add];exact hc j u hu)⟩),
    List.Sublist.append (List.Sublist.refl _) (List.sublist_cons_self ..),fun b' c hcc=>?_⟩)
   refine Gh.perm (List.Perm.cons _ hF) (hk [(b',_)] _ ⟨hlen,.inr ⟨b',c,_,rfl,rfl,?_,hcc,?_⟩⟩)
   ·simp only [Array.size_append,List.size_toArray,CK,hz,hlen];rw [←Nat.add_mul];congr 1;omega
   ·intro j u hu;have hlt:j < (cells++news).length:=(List.getElem?_eq_some_iff.1 hu).1;rw [Array.getElem?_append_left (by simpa using hlt)];simpa using hu
theorem DJ {I:Imm}{X L F:LH}[hsp:SplitL X L F]{T n bytes len m:Nat}{z:Array Value}{s x:Value}{cells news:List Value}{K:Value→M}(hz:z.size=n)(ho:SlO T n X s cells len)(hn:News n x I L m news)
  (h1:∀u∈news,u.oneCell'=true) (hb:(len+m) * bytes≤150000000000000) (hm:len+m≤150000000000000)
  (hk:∀X' v',SlO T n X' v' (cells++news) (len+m)→K v' I (X'++F)):App T n bytes z s x (gh K) I L:=Et hz ho hn h1 hb hm (fun X' v' h=>Gh.done (hk X' v' h))
theorem AGk {I:Imm}{F:LH}{T bytes:Nat}{z:Array Value}{ln cn:Nat}{K:Value→M}(hlc:ln≤cn)(hc:cn≤140737488355328)(hb:cn * bytes≤281474976710656)
  (hk:∀X v,SlO T z.size X v (Builtin.zeroCells z ln).toList ln→K v I (X++F)):MkS T bytes z (.int .i64 ln) (.int .i64 cn) (gh K) I F:=by
 refine ⟨.i64,.i64,ln,cn,rfl,rfl,hlc,hc,hb,fun b=>?_⟩;refine Gh.done (hk [(b,_)] _ ⟨by simp [CK],.inr ⟨b,cn,_,rfl,rfl,CK z cn,hlc,?_⟩⟩);intro j u hu;have hlt:j < ln * z.size:=by have:=(List.getElem?_eq_some_iff.1 hu).1;simpa [CK] using this
 have hlt':j < cn * z.size:=Nat.lt_of_lt_of_le hlt (Nat.mul_le_mul_right _ hlc);simp only [Builtin.zeroCells,Array.toList_map,List.getElem?_map,Array.toList_range,List.getElem?_range hlt,Option.map_some,Option.some.injEq] at hu;simp only [Builtin.zeroCells,Array.getElem?_map,Array.getElem?_range,hlt',if_true,Option.map_some,hu]
theorem Ln {I:Imm}{F:LH}{T n:Nat}{z:Array Value}{v:Value}{K:Value→M}(hz:z.size=n)(hn:0 < n)(hv:v.cells.size=n)
  (hk:∀X u,SlO T n X u v.cells.toList 1→Gh (K u) I (X++F)):Ay T n z 1 [(0,v)] (gh K) I F:=by
 have hfold:∀(vs:List Value) (cs:Array Value) (k:Nat),k+vs.length≤cs.size→(vs.zipIdx k).foldl (fun cs (c,j)=>cs.setIfInBounds (0+j) c) cs=wr cs k vs:=by
  intro vs;induction vs with
  |nil=>intro cs k _;rfl
  |cons v vs ih=>
   intro cs k hk;simp only [List.zipIdx_cons,List.foldl_cons,wr,Nat.zero_add];simp only [List.length_cons] at hk;have:=ih (cs.setIfInBounds k v) (k+1) (by simp;omega);simpa using this
 refine ⟨v.cells,?_,fun b=>?_⟩
 ·simp only [Instr.fill];have h0:((Array.range (1 * n)).map (fun x=>z[x % z.size]!)).size=n:=by simp
  rw [h0];have hc:¬((decide (v.cells.size≠n)||decide (0 * n+v.cells.size > n))=true):=by simp [hv]
  rw [if_neg hc];congr 1
  rw [←Array.foldl_toList];simp only [Array.toList_zipIdx,Nat.zero_mul];rw [hfold _ _ 0 (by rw [h0];simp [hv]),Oi _ _ 0 (by rw [h0];simp [hv])];apply Array.ext'
  simp [hv]
 ·exact hk [(b,_)] _ ⟨by simp [hv],.inr ⟨b,1,_,rfl,rfl,by omega,Nat.le_refl _,fun j u hu=>by simpa using hu⟩⟩
theorem Dg {I:Imm}{F:LH}{T n:Nat}{z:Array Value}{v:Value}{K:Value→M}(hz:z.size=n)(hn:0 < n)(hv:v.cells.size=n)
  (hk:∀X u,SlO T n X u v.cells.toList 1→K u I (X++F)):Ay T n z 1 [(0,v)] (gh K) I F:=Ln hz hn hv (fun X u h=>Gh.done (hk X u h))
theorem QO {I:Imm}{F:LH}{T n:Nat}{z:Array Value}{K:Value→M}(hk:∀X u,SlO T n X u [] 0→K u I (X++F)):Ay T n z 0 [] (gh K) I F:=by
 refine ⟨#[],by simp [Instr.fill],fun b=>?_⟩;exact Gh.done (hk [(b,_)] _ ⟨by simp,.inr ⟨b,0,_,rfl,rfl,by simp,Nat.le_refl _,fun j u hu=>by simp at hu⟩⟩)
theorem AFC {I:Imm}{X L F:LH}[hsp:SplitL X L F]{T n len:Nat}{v:Value}{cells:List Value}{K:Value→M}(ho:SlO T n X v cells len)(hX:X≠[])
  (hk:∀I',Ext I I'→SlI I' n v cells len→K v I' F):SF v (gh K) I L:=by
 have hp:=hsp.perm;obtain ⟨hl,ho⟩:=ho;rcases ho with ⟨rfl,_⟩|⟨b,cap,cs,rfl,rfl,hcs,hle,hc⟩
 ·exact absurd rfl hX
 ·have hmem:(b,Obj.cells cs T (0,0))∈L:=hp.mem_iff.2 (List.mem_append_left _ (List.mem_singleton.2 rfl));obtain ⟨L1,L2,rfl⟩:=List.append_of_mem hmem;have hF:(L1++L2).Perm F:=by
   have h2:(L1++(b,Obj.cells cs T (0,0))::L2).Perm ((b,Obj.cells cs T (0,0))::(L1++L2)):=List.perm_middle;exact (List.perm_cons _).1 (h2.symm.trans hp)
  refine ⟨b,0,len,cap,cs,T,L1,L2,rfl,rfl,?_⟩;refine Gh.perm (List.perm_middle.trans (List.Perm.cons _ hF)) (Gh.freeze fun hext=>Gh.done (hk _ hext ⟨hl,_,cap,rfl,hle,fun _=>⟨b,0,cs,T,_,rfl,by simp [Imm.put];rfl,fun j u hu=>by rw [Nat.zero_add];exact hc j u hu⟩⟩))
theorem SlO.ix {T n len i:Nat}{X:LH}{v:Value}{cells:List Value}(h:SlO T n X v cells len)(k:IntKind)(hi:i < len):
  ∃b,ixV n v (.int k i)=some (.pointer (some ⟨b,i * n,Option.none⟩))∧∀I L,(∀x∈X,x∈L)→Cells I L b (i * n) ((cells.drop (i * n)).take n):=by
 obtain ⟨hl,h⟩:=h;rcases h with ⟨rfl,rfl,a,rfl⟩|⟨b,cap,cs,rfl,rfl,hcs,hle,hc⟩
 ·omega
 ·refine ⟨b,by rw [Rd b 0 n k len cap i hi,Nat.zero_add],fun I L hX j u hu=>?_⟩;rw [List.getElem?_take] at hu;split at hu
  ·rw [List.getElem?_drop] at hu;exact Cell.own (hX _ (List.mem_singleton.2 rfl)) (hc _ u hu)
  ·cases hu
theorem SlI.ix {I:Imm}{n len i:Nat}{v:Value}{cells:List Value}(h:SlI I n v cells len)(k:IntKind)(hi:i < len):
  ∃b off,ixV n v (.int k i)=some (.pointer (some ⟨b,off,none⟩))∧∀I' L,Ext I I'→Cells I' L b off ((cells.drop (i * n)).take n):=by
 obtain ⟨hl,a,cap,rfl,hcap,h⟩:=h;obtain ⟨b,off,cs,T,fr,rfl,hb,hcs⟩:=h (by omega);refine ⟨b,off+i * n,Rd b off n k len cap i hi,fun I' L hI j u hu=>?_⟩;rw [List.getElem?_take] at hu;split at hu
 ·rw [List.getElem?_drop] at hu;refine Cell.imm (hI _ _ hb) ?_;have:=hcs _ u hu;rwa [←Nat.add_assoc] at this
 ·cases hu
theorem BG (k:IntKind)(i d y:Nat)(h:i≤y):Co (some (.int k i)) d y=some i:=by
 simp only [Co];rw [if_pos (by omega)];simp
theorem SlI.part {I:Imm}{n len lo hi:Nat}{v:Value}{cells:List Value}(h:SlI I n v cells len)(h1:lo≤hi)(h2:hi≤len)(blo bhi:Option Value)
  (hlo:∀y,hi≤y→Co blo 0 y=some lo∨y≠hi) (hhi:∀cap,len≤cap→Co bhi len cap=some hi):
  ∃v',BL n v blo bhi none=some v'∧SlI I n v' ((cells.drop (lo * n)).take ((hi - lo) * n)) (hi - lo):=by
 obtain ⟨hl,a,cap,rfl,hcap,h⟩:=h;have hb1:=hhi cap hcap;have hb2:Co blo 0 hi=some lo:=(hlo hi (Nat.le_refl _)).resolve_right (by simp);refine ⟨.slice (if cap=lo then a else a.map (·.add (lo * n))) (hi - lo) (cap - lo),?_,?_,_,_,rfl,by omega,fun h0=>?_⟩
 ·simp only [BL];rw [if_neg (by simp)];simp only [Co] at hb1 hb2 ⊢;simp [hb1,hb2]
 ·rw [List.length_take,List.length_drop,hl];apply Nat.min_eq_left
  rw [←Nat.sub_mul];exact Nat.mul_le_mul_right n (by omega)
 ·obtain ⟨b,off,cs,T,fr,rfl,hb,hcs⟩:=h (by omega);refine ⟨b,off+lo * n,cs,T,fr,by rw [if_neg (by omega)];simp [Be],hb,fun j u hu=>?_⟩;rw [List.getElem?_take] at hu;split at hu
  ·rw [List.getElem?_drop] at hu;have:=hcs _ u hu;rwa [←Nat.add_assoc] at this
  ·cases hu
def u8s (l:List UInt8):List Value:=l.map fun c=>.int .u8 c.toNat
def AJf (l:List Int):List Value:=l.map (.int .i64)
def Bytes (I:Imm)(v:Value)(l:List UInt8):Prop:=SlI I 1 v (u8s l) l.length
def Ints (I:Imm)(v:Value)(l:List Int):Prop:=SlI I 1 v (AJf l) l.length
theorem Bytes.mono {I I':Imm}{v:Value}{l:List UInt8}(h:Bytes I v l)(hI:Ext I I'):Bytes I' v l:=SlI.mono h hI
theorem Bytes.form {I:Imm}{v:Value}{l:List UInt8}(h:Bytes I v l):∃a cap,v= .slice a l.length cap:=by
 obtain ⟨_,a,cap,hv,_⟩:=h;exact ⟨a,cap,hv⟩
theorem FX (l:List UInt8):∀u∈u8s l,u.oneCell'=true:=by
 intro u hu;obtain ⟨c,_,rfl⟩:=List.mem_map.1 hu;rfl
theorem Bytes.str {I:Imm}{L:LH}{v:Value}{l:List UInt8}(h:Bytes I v l):bsR v I L (.string ⟨l.toArray⟩):=by
 rcases SlI.news (L:=L) h with ⟨a,cap,rfl,hl,hn⟩|⟨b,off,cap,rfl,hl,hc⟩|⟨s,rfl,_⟩
 ·have:l=[]:=List.eq_nil_of_length_eq_zero hl;subst this;exact .inl ⟨a,cap,rfl,rfl⟩
 ·exact .inr ⟨b,off,_,cap,l,rfl,rfl,hc,rfl⟩
 ·obtain ⟨a,cap,hv⟩:=h.form;cases hv
def Recs {α:Type}(R:α→List Value→Prop)(n:Nat):List α→List Value→Prop
 |[],cells=>cells=[]
 |x::xs,cells=>(cells.take n).length=n∧R x (cells.take n)∧Recs R n xs (cells.drop n)
section recs
variable {α:Type}{R R':α→List Value→Prop}{n:Nat}
theorem Recs.length:∀{xs:List α} {cells:List Value},Recs R n xs cells→cells.length=xs.length * n
 |[],cells,h=>by rw [h];simp
 |x::xs,cells,⟨h1,_,h2⟩=>by
  have:=Recs.length h2;rw [List.length_drop] at this;rw [List.length_take] at h1;simp only [List.length_cons,Nat.add_mul,Nat.one_mul];omega
theorem Recs.imp (hR:∀x c,R x c→R' x c):∀{xs:List α} {cells:List Value},Recs R n xs cells→Recs R' n xs cells
 |[],_,h=>h
 |_::_,_,⟨h1,h2,h3⟩=>⟨h1,hR _ _ h2,Recs.imp hR h3⟩
theorem Recs.append:∀{xs ys:List α} {cs ds:List Value},Recs R n xs cs→Recs R n ys ds→Recs R n (xs++ys) (cs++ds)
 |[],ys,cs,ds,h,h'=>by rw [show cs=[] from h];exact h'
 |x::xs,ys,cs,ds,⟨h1,h2,h3⟩,h'=>by
  have hle:n≤cs.length:=by rw [List.length_take] at h1;omega
  refine ⟨?_,?_,?_⟩
  ·rw [List.take_append_of_le_length hle];exact h1
  ·rw [List.take_append_of_le_length hle];exact h2
  ·rw [List.drop_append_of_le_length hle];exact Recs.append h3 h'
theorem Recs.one {x:α}{c:List Value}(hl:c.length=n)(h:R x c):Recs R n [x] c:=by
 refine ⟨by rw [List.take_of_length_le (by omega)];exact hl,by rw [List.take_of_length_le (by omega)];exact h,?_⟩;show c.drop n=[];simp [hl]
theorem Recs.one_cells (hR:∀x c,R x c→∀u∈c,u.oneCell'=true):∀{xs:List α} {cells:List Value},Recs R n xs cells→∀u∈cells,u.oneCell'=true
 |[],cells,h,u,hu=>by rw [show cells=[] from h] at hu;cases hu
 |x::xs,cells,⟨_,h2,h3⟩,u,hu=>by
  rw [←List.take_append_drop n cells] at hu;rcases List.mem_append.1 hu with hu|hu
  ·exact hR _ _ h2 u hu
  ·exact Recs.one_cells hR h3 u hu
theorem Recs.get:∀{xs:List α} {cells:List Value} {i:Nat} {x:α},Recs R n xs cells→xs[i]? =some x→((cells.drop (i * n)).take n).length=n∧R x ((cells.drop (i * n)).take n)
 |[],_,_,_,_,h=>by simp at h
 |y::ys,cells,0,x,⟨h1,h2,_⟩,h=>by
  simp only [List.getElem?_cons_zero,Option.some.injEq] at h;subst h;simpa using ⟨by simpa using h1,h2⟩
 |y::ys,cells,i+1,x,⟨_,_,h3⟩,h=>by
  have:=Recs.get (i:=i) h3 (by simpa using h);rw [List.drop_drop] at this;rwa [show (i+1) * n=n+i * n from by rw [Nat.add_mul];omega]
theorem Recs.take:∀{xs:List α} {cells:List Value} (k:Nat),Recs R n xs cells→Recs R n (xs.take k) (cells.take (k * n))
 |[],cells,k,h=>by rw [show cells=[] from h];simp [Recs]
 |x::xs,cells,0,_=>by simp [Recs]
 |x::xs,cells,k+1,⟨h1,h2,h3⟩=>by
  have hle:n≤(k+1) * n:=by rw [Nat.add_mul];omega
  refine ⟨?_,?_,?_⟩
  ·rw [List.take_take,Nat.min_eq_left hle];exact h1
  ·rw [List.take_take,Nat.min_eq_left hle];exact h2
  ·have:=Recs.take k h3;rw [List.drop_take];rwa [show (k+1) * n - n=k * n from by rw [Nat.add_mul];omega]
theorem Recs.drop:∀{xs:List α} {cells:List Value} (k:Nat),Recs R n xs cells→Recs R n (xs.drop k) (cells.drop (k * n))
 |[],cells,k,h=>by rw [show cells=[] from h];simp [Recs]
 |x::xs,cells,0,h=>by simpa using h
 |x::xs,cells,k+1,⟨_,_,h3⟩=>by
  have:=Recs.drop k h3;rw [List.drop_drop] at this;rwa [show (k+1) * n=n+k * n from by rw [Nat.add_mul];omega]
end recs
section
variable {I:Imm}{L:LH}{K:Value→M}
theorem AO {A B:M}(e:A=B)(h:B I L):A I L:=e ▸ h
theorem Bz {b b':Bool}(h:K (.bool b) I L)(e:b=b'):K (.bool b') I L:=e ▸ h
end
theorem UP (A B:M):Gd (.bool true) true A B=A:=rfl
theorem UR (A B:M):Gd (.bool false) true A B=B:=rfl
theorem UQ (A B:M):Gd (.bool true) false A B=B:=rfl
theorem US (A B:M):Gd (.bool false) false A B=A:=rfl
class LSub (L L':LH):Prop where
 sub:∀x∈L,x∈L'
instance (priority:=100) lsubRefl (L:LH):LSub L L:=⟨fun _ h=>h⟩
instance (priority:=110) lsubNil (L:LH):LSub [] L:=⟨fun _ h=>by cases h⟩
instance (priority:=90) lsubCons (L L':LH)(y:Nat×Obj)[h:LSub L L']:LSub L (y::L'):=⟨fun x hx=>List.mem_cons_of_mem _ (h.sub x hx)⟩
instance (priority:=90) lsubApp (L A L':LH)[h:LSub L L']:LSub L (A++L'):=⟨fun x hx=>List.mem_append_right _ (h.sub x hx)⟩
instance (priority:=80) lsubAppL (L A L':LH)[h:LSub L A]:LSub L (A++L'):=⟨fun x hx=>List.mem_append_left _ (h.sub x hx)⟩
section readsC
variable {I I0 I1:Imm}{L L0 X:LH}{K:Value→M}{b off n:Nat}{v:Value}
theorem Cells.mono {vs:List Value}(h:Cells I0 L0 b off vs)(hI:Ext I0 I)(hL:∀x∈L0,x∈L):Cells I L b off vs:=fun j u hu=>(h j u hu).mono hI hL
theorem Cells.sub {vs:List Value}{k m:Nat}(h:Cells I L b off vs):Cells I L b (off+k) ((vs.drop k).take m):=fun j u hu=>by
 rw [List.getElem?_take] at hu;split at hu
 ·rw [List.getElem?_drop] at hu;have:=h (k+j) u hu;rwa [←Nat.add_assoc] at this
 ·cases hu
theorem rdC [hl:LSub L0 L](hc:Cell I0 L0 b off v)(hI:Ext I0 I)(hk:K v I L):Rv none (AB (.pointer (some ⟨b,off,none⟩))) K I L:=rd1 (hc.mono hI hl.sub) hk
theorem Aq [hl:LSub L0 X](hc:Cell I0 L0 b off v)(hI:Ext I0 I1)(hk:K v I L):Rv (some (Stay I1 X)) (AB (.pointer (some ⟨b,off,none⟩))) K I L:=AKv (hc.mono hI hl.sub) hk
theorem FO [hl:LSub L0 L]{vs:List Value}(hc:Cells I0 L0 b off vs)(hI:Ext I0 I)(hn:vs.length=n)(hk:K (.agg vs.toArray) I L):Rv none (AF n (.pointer (some ⟨b,off,none⟩))) K I L:=rdN hn (hc.mono hI hl.sub) hk
theorem BX [hl:LSub L0 X]{vs:List Value}(hc:Cells I0 L0 b off vs)(hI:Ext I0 I1)(hn:vs.length=n)(hk:K (.agg vs.toArray) I L):Rv (some (Stay I1 X)) (AF n (.pointer (some ⟨b,off,none⟩))) K I L:=AKu hn (hc.mono hI hl.sub) hk
theorem Bv [hl:LSub X L](hI:Ext I0 I)(hk:K v I L):BN (Stay I0 X) K v I L:=JM hI hl.sub hk
theorem keepA [hl:LSub X L](hk:K v I L)(hI:Ext I0 I:=by repeat (first|exact Ext.refl _|assumption|refine Ext.trans ?_ (by assumption))):BN (Stay I0 X) K v I L:=Bv hI hk
theorem AK {B:M→M}(h:B (Stay I L) I L):Ac B I L:=draw _ (Stay.start I L) h
end readsC
def EY {α:Type}[Inhabited α](l:List α)(i:Int):α:=l.getD i.toNat default
theorem Ab {α:Type}[Inhabited α]{l:List α}{k:Nat}(h:k < l.length):EY l (k:Int)=l[k]:=by
 simp [EY,List.getD,h]
theorem VU {α:Type}[Inhabited α]{l:List α}{i:Int}(h0:0≤i)(h1:i < l.length):l[i.toNat]? =some (EY l i):=by
 have:i.toNat < l.length:=by omega
 simp [EY,List.getD,this]
theorem Gp (b off n:Nat)(k:IntKind)(len cap:Nat)(i:Int)(h0:0≤i)(h1:i < len):ixV n (.slice (some ⟨b,off,none⟩) len cap) (.int k i)=some (.pointer (some ⟨b,off+i.toNat * n,none⟩)):=by
 simp only [ixV];rw [if_pos ⟨h0,h1⟩]
theorem News.ix {I:Imm}{L:LH}{n m:Nat}{a:Option Addr}{cap:Nat}{cells:List Value}(h:News n (.slice a m cap) I L m cells)(k:IntKind){i:Int}(h0:0≤i)(h1:i < m):
  ∃b off,ixV n (.slice a m cap) (.int k i)=some (.pointer (some ⟨b,off,none⟩))∧∀I' L',Ext I I'→(∀x∈L,x∈L')→Cells I' L' b off ((cells.drop (i.toNat * n)).take n):=by
 rcases h with ⟨a',cap',h2,h3,_⟩|⟨b,off,cap',h2,hl,hc⟩|⟨s,h2,_⟩
 ·omega
 ·simp only [Value.slice.injEq] at h2;obtain ⟨rfl,_,rfl⟩:=h2;refine ⟨b,off+i.toNat * n,Gp b off n k m cap i h0 h1,fun I' L' hI hL j u hu=>?_⟩;rw [List.getElem?_take] at hu;split at hu
  ·rw [List.getElem?_drop] at hu;have:=(hc _ u hu).mono hI hL;rwa [←Nat.add_assoc] at this
  ·cases hu
 ·cases h2
def RL {α:Type}(R:Imm→α→List Value→Prop)(n:Nat)(I:Imm)(L:LH)(v:Value)(xs:List α):Prop:=
 ∃a cap cells,v= .slice a xs.length cap∧xs.length≤cap∧News n v I L xs.length cells∧Recs (R I) n xs cells
section rl
variable {α:Type}{R:Imm→α→List Value→Prop}{n:Nat}{I I':Imm}{L L':LH}{v:Value}{xs:List α}
theorem RL.len (h:RL R n I L v xs):lenV v=some (.int .i64 xs.length):=by
 obtain ⟨a,cap,cells,rfl,_⟩:=h;rfl
theorem RL.form (h:RL R n I L v xs):∃a cap,v= .slice a xs.length cap:=by
 obtain ⟨a,cap,cells,rfl,_⟩:=h;exact ⟨a,cap,rfl⟩
theorem News.mono {m:Nat}{news:List Value}(h:News n v I L m news)(hI:Ext I I')(hL:∀x∈L,x∈L'):News n v I' L' m news:=by
 rcases h with h|⟨b,off,cap,h1,h2,h3⟩|h
 ·exact .inl h
 ·exact .inr (.inl ⟨b,off,cap,h1,h2,fun j u hu=>(h3 j u hu).mono hI hL⟩)
 ·exact .inr (.inr h)
theorem RL.mono (hR:∀x c,R I x c→R I' x c)(h:RL R n I L v xs)(hI:Ext I I')(hL:∀x∈L,x∈L'):RL R n I' L' v xs:=by
 obtain ⟨a,cap,cells,hv,hc,hn,hr⟩:=h;exact ⟨a,cap,cells,hv,hc,hn.mono hI hL,hr.imp hR⟩
theorem RL.ofI {cells:List Value}(h:SlI I n v cells xs.length)(hr:Recs (R I) n xs cells):RL R n I L v xs:=by
 have hn:=SlI.news (L:=L) h;obtain ⟨_,a,cap,hv,hle,_⟩:=h;exact ⟨a,cap,cells,hv,hle,hn,hr⟩
theorem RL.nil (a:Option Addr)(cap:Nat):RL R n I L (.slice a 0 cap) []:=⟨a,cap,[],rfl,Nat.zero_le _,.inl ⟨a,cap,rfl,rfl,rfl⟩,rfl⟩
theorem RL.ix [Inhabited α](h:RL R n I L v xs){i:Int}(h0:0≤i)(h1:i < xs.length):
  ∃b off c,ixV n v (.int .i64 i)=some (.pointer (some ⟨b,off,none⟩))∧c.length=n∧R I (EY xs i) c∧∀I' L',Ext I I'→(∀x∈L,x∈L')→Cells I' L' b off c:=by
 obtain ⟨a,cap,cells,rfl,_,hn,hr⟩:=h;obtain ⟨b,off,hix,hc⟩:=News.ix hn .i64 h0 h1;obtain ⟨g1,g2⟩:=hr.get (VU h0 h1);exact ⟨b,off,_,hix,g1,g2,hc⟩
theorem RL.part (h:RL R n I L v xs){lo hi:Nat}(h1:lo≤hi)(h2:hi≤xs.length)(blo bhi:Option Value)(hlo:Co blo 0 hi=some lo)(hhi:∀cap,xs.length≤cap→Co bhi xs.length cap=some hi):
  ∃v',BL n v blo bhi none=some v'∧RL R n I L v' ((xs.drop lo).take (hi - lo)):=by
 obtain ⟨a,cap,cells,rfl,hcap,hn,hr⟩:=h;have hb1:=hhi cap hcap;have hlen:((xs.drop lo).take (hi - lo)).length=hi - lo:=by rw [List.length_take,List.length_drop];omega
 refine ⟨.slice (if cap=lo then a else a.map (·.add (lo * n))) (hi - lo) (cap - lo),?_,_,cap - lo,(cells.drop (lo * n)).take ((hi - lo) * n),by rw [hlen],by rw [hlen];omega,?_,?_⟩
 ·simp only [BL];rw [if_neg (by simp)];simp only [Co] at hb1 hlo ⊢;simp [hb1,hlo]
 ·rw [hlen];by_cases h0:hi - lo=0
  ·rw [h0];exact .inl ⟨_,_,rfl,rfl,by simp⟩
  ·rcases hn with ⟨a',cap',e1,e2,_⟩|⟨b,off,cap',e1,hl,hc⟩|⟨s,e1,_⟩
   ·omega
   ·simp only [Value.slice.injEq] at e1;obtain ⟨rfl,_,rfl⟩:=e1;refine .inr (.inl ⟨b,off+lo * n,cap - lo,by rw [if_neg (by omega)];simp [Be],?_,fun j u hu=>?_⟩)
    ·rw [List.length_take,List.length_drop,hl];apply Nat.min_eq_left
     rw [←Nat.sub_mul];exact Nat.mul_le_mul_right n (by omega)
    ·rw [List.getElem?_take] at hu;split at hu
     ·rw [List.getElem?_drop] at hu;have:=hc _ u hu;rwa [←Nat.add_assoc] at this
     ·cases hu
   ·cases e1
 ·exact (hr.drop lo).take (hi - lo)
end rl
def Eo (w:World):Imm:=fun b=>w.heap[b]?
def AJU (w:World):Om:=⟨w.tape,w.os,w.output,w.drawn⟩
theorem st_start (w:World):St (AJU w) w (Eo w) []:=⟨fun _ _ h=>h,fun _ _ h=>(List.not_mem_nil h).elim,List.nodup_nil,fun _ _ h=>(List.not_mem_nil h).elim,rfl,rfl,rfl,Nat.le_refl _⟩
theorem law_below {P:Program}{f:FuncId}{args:Array Value}{w:World}(h:∀ω,Cal P ω f args (fun v I' _=>v= .bool true∧Ext (Eo w) I') (Eo w) []):
  Calls P f args w fun e w'=>e= .returned (.bool true)∧RowKit.Below w.heap.size w w':=by
 refine (h (AJU w) w (st_start w)).mono ?_;rintro e w' ⟨v,I',L',rfl,hs,rfl,hI⟩;have hblk:∀k,k < w.heap.size→w'.heap[k]? =w.heap[k]? :=by
  intro k hk;have h1:Eo w k=some w.heap[k]:=Array.getElem?_eq_getElem hk;rw [hs.imm k _ (hI k _ h1)];exact h1.symm
 refine ⟨rfl,hs.os,hs.tape,hs.out,?_,hblk⟩;rcases Nat.eq_zero_or_pos w.heap.size with h0|h0
 ·omega
 ·have:=hblk (w.heap.size - 1) (by omega);rw [Array.getElem?_eq_getElem (by omega:w.heap.size - 1 < w.heap.size)] at this;have:=(Array.getElem?_eq_some_iff.1 this).1;omega
def TrR (rz:Nat)(P:Program)(w:World)(T:TypeId)(cs:List Value):Prop:=
 ∃(H:Type) (enc:TypeId×Value→H) (fuel:Nat) (d:DataW H) (ps:List MemPlace),DataW.trod enc P w 0 (fun _=>true) true fuel T cs=some (d,ps)∧(d.weights P T).all (·≤rz)=true
abbrev Tr:=TrR reachBytes
section
variable {rz:Nat}{P:Program}{w:World}{T:TypeId}{cs:List Value}
theorem FZ {k:IntKind}(hu:P.underlying T=some (.int k))(h:TrR rz P w T cs):∃n,cs=[.int k n]∧(Lit.int k n).wf=true:=by
 obtain ⟨H,enc,fuel,d,ps,h,_⟩:=h;cases fuel with
 |zero=>simp [DataW.trod] at h
 |succ fuel=>
  simp only [DataW.trod,hu] at h;split at h <;> simp_all
theorem SM (hu:P.underlying T=some .bool)(h:TrR rz P w T cs):∃b,cs=[.bool b]:=by
 obtain ⟨H,enc,fuel,d,ps,h,_⟩:=h;cases fuel with
 |zero=>simp [DataW.trod] at h
 |succ fuel=>
  simp only [DataW.trod,hu] at h;split at h <;> simp_all
theorem GX {fs:Array Field}(hu:P.underlying T=some (.struct fs))(h:TrR rz P w T cs):cs.length=P.cellsOf T∧∀f∈fs.toList,TrR rz P w f.type ((cs.drop f.offset).take (P.cellsOf f.type)):=by
 obtain ⟨H,enc,fuel,d,ps,h,hw⟩:=h;cases fuel with
 |zero=>simp [DataW.trod] at h
 |succ fuel=>
  have h':(if cs.length=P.cellsOf T then (fs.toList.mapM fun f=>DataW.trod enc P w 0 (fun _=>true) true fuel f.type ((cs.drop f.offset).take (P.cellsOf f.type))).map fun xs=>(DataW.agg (xs.map (·.1)),xs.flatMap (·.2)) else none)=some (d,ps):=by
   rw [←h];simp only [DataW.trod,hu]
  split at h'
  ·rename_i hlen
   refine ⟨hlen,?_⟩;obtain ⟨xs,hxs,hd⟩:=Option.map_eq_some_iff.1 h';simp only [Prod.mk.injEq] at hd;obtain ⟨rfl,_⟩:=hd;simp only [DataW.weights,hu] at hw;have key:∀(l:List Field) (xs:List (DataW H×List MemPlace)),(l.mapM fun f=>DataW.trod enc P w 0 (fun _=>true) true fuel f.type ((cs.drop f.offset).take (P.cellsOf f.type)))=some xs→
     (DataW.weightsEach P (l.map (·.type)) (xs.map (·.1))).all (·≤rz)=true→∀f∈l,TrR rz P w f.type ((cs.drop f.offset).take (P.cellsOf f.type)):=by
    intro l;induction l with
    |nil=>intro xs _ _ f hf;cases hf
    |cons g l ih=>
     intro xs hxs hw f hf;simp only [List.mapM_cons,Option.bind_eq_bind,Option.bind_eq_some_iff] at hxs;obtain ⟨y,hy,ys,hys,he⟩:=hxs;simp only [Option.pure_def,Option.some.injEq] at he;subst he;simp only [List.map_cons,DataW.weightsEach,List.all_append,Bool.and_eq_true] at hw;rcases List.mem_cons.1 hf with rfl|hf
     ·exact ⟨H,enc,fuel,y.1,y.2,hy,hw.1⟩
     ·exact ih ys hys hw.2 f hf
   exact key fs.toList xs hxs hw
  ·cases h'
theorem mapM_len {α β:Type}{f:α→Option β}:∀(l:List α) (r:List β),l.mapM f=some r→r.length=l.length
 |[],r,h=>by simp at h;subst h;rfl
 |x::l,r,h=>by
  simp only [List.mapM_cons,Option.bind_eq_bind,Option.bind_eq_some_iff] at h;obtain ⟨y,_,ys,hys,he⟩:=h;simp only [Option.pure_def,Option.some.injEq] at he;subst he;simp [mapM_len l ys hys]
theorem LG {α β:Type}{f:α→Option β}:∀(l:List α) (r:List β),l.mapM f=some r→∀(i:Nat) (x:α),l[i]? =some x→∃y,r[i]? =some y∧f x=some y
 |[],r,h,i,x,hx=>by simp at hx
 |z::l,r,h,i,x,hx=>by
  simp only [List.mapM_cons,Option.bind_eq_bind,Option.bind_eq_some_iff] at h;obtain ⟨y,hy,ys,hys,he⟩:=h;simp only [Option.pure_def,Option.some.injEq] at he;subst he;cases i with
  |zero=>simp at hx;subst hx;exact ⟨y,rfl,hy⟩
  |succ i=>simpa using LG l ys hys i x (by simpa using hx)
theorem Vz {e:TypeId}(hu:P.underlying T=some (.slice e))(h:TrR rz P w T cs):
  ∃a len cap,cs=[.slice a len cap]∧len≤cap∧len * P.bytesOf e≤rz∧
   ((a=none∧len=0∧cap=0)∨∃ad,a=some ad∧∀i,i < len→∃ec,w.cells? 0 (ad.add (i * P.cellsOf e)) (P.cellsOf e)=some ec∧TrR rz P w e ec):=by
 obtain ⟨H,enc,fuel,d,ps,h,hw⟩:=h;cases fuel with
 |zero=>simp [DataW.trod] at h
 |succ fuel=>
  simp only [DataW.trod,hu] at h;split at h <;> try (simp_all;done)
  ·exact ⟨none,0,0,rfl,Nat.le_refl _,by simp,.inl ⟨rfl,rfl,rfl⟩⟩
  ·rename_i e' ad len cap he
   simp only [Option.some.injEq,TypeDesc.slice.injEq] at he;subst he;split at h
   ·rename_i hc
    simp only [Option.bind_eq_some_iff] at h;obtain ⟨elems,hel,h⟩:=h;simp only [if_true,Option.map_eq_some_iff] at h;obtain ⟨rest,hrest,h⟩:=h;simp only [Prod.mk.injEq] at h;obtain ⟨rfl,_⟩:=h;simp only [DataW.weights,hu,List.all_cons,List.all_append,Bool.and_eq_true,decide_eq_true_eq,List.length_map] at hw;have hlen:elems.length=len:=by have:=mapM_len _ _ hel;simpa using this
    refine ⟨some ad,len,cap,rfl,hc.2.1,?_,.inr ⟨ad,rfl,?_⟩⟩
    ·refine Nat.le_trans ?_ hw.1;exact Nat.mul_le_mul_right _ (by omega)
    ·have key:∀(l:List Nat) (xs:List (DataW H×List MemPlace)),(l.mapM fun i=>(w.cells? 0 (ad.add (i * P.cellsOf e)) (P.cellsOf e)).bind (DataW.trod enc P w 0 (fun _=>true) true fuel e))=some xs→
       (DataW.weightsAll P e (xs.map (·.1))).all (·≤rz)=true→∀i∈l,∃ec,w.cells? 0 (ad.add (i * P.cellsOf e)) (P.cellsOf e)=some ec∧TrR rz P w e ec:=by
      intro l;induction l with
      |nil=>intro xs _ _ f hf;cases hf
      |cons g l ih=>
       intro xs hxs hw i hi;simp only [List.mapM_cons,Option.bind_eq_bind,Option.bind_eq_some_iff] at hxs;obtain ⟨y,⟨ec,hec,hy⟩,ys,hys,he⟩:=hxs;simp only [Option.pure_def,Option.some.injEq] at he;subst he;simp only [List.map_cons,DataW.weightsAll,List.all_append,Bool.and_eq_true] at hw;rcases List.mem_cons.1 hi with rfl|hi
       ·exact ⟨ec,hec,H,enc,fuel,y.1,y.2,hy,hw.1⟩
       ·exact ih ys hys hw.2 i hi
     exact fun i hi=>key (List.range len) elems hel hw.2.1 i (List.mem_range.2 hi)
   ·cases h
theorem AGD {e:TypeId}(hu:P.underlying T=some (.slice e))(hn:0 < P.cellsOf e){v:Value}(h:TrR rz P w T [v]):
  ∃cells len,SlI (Eo w) (P.cellsOf e) v cells len∧len * P.bytesOf e≤rz∧∀i,i < len→TrR rz P w e ((cells.drop (i * P.cellsOf e)).take (P.cellsOf e)):=by
 obtain ⟨a,len,cap,hcs,hle,hb,h2⟩:=Vz hu h;simp only [List.cons.injEq,and_true] at hcs;subst hcs;clear h;have h:=h2;generalize hN:P.cellsOf e=n at *;rcases h with ⟨rfl,rfl,rfl⟩|⟨ad,rfl,h⟩
 ·exact ⟨[],0,SlI.nil _ _ _ _,by simp,fun i hi=>by omega⟩
 ·by_cases h0:len=0
  ·subst h0;exact ⟨[],0,SlI.nil _ _ _ _,by simp,fun i hi=>by omega⟩
  ·have hcell:∀i,i < len→∀j,j < n→∃u,w.cell? ((ad.add (i * n)).add j)=some u:=by
    intro i hi j hj;obtain ⟨ec,hec,_⟩:=h i hi;unfold World.cells? at hec;split at hec
    ·obtain ⟨y,_,hy⟩:=LG _ _ hec j j (List.getElem?_range hj);exact ⟨y,hy⟩
    ·cases hec
   obtain ⟨u0,hu0⟩:=hcell 0 (by omega) 0 hn;obtain ⟨b,off,sp⟩:=ad;have hsp:sp=none∧∃c T' fr,w.heap[b]? =some (.cells c T' fr):=by
    simp only [Addr.add,Nat.zero_mul,if_true] at hu0;unfold World.cell? at hu0;split at hu0
    ·rename_i c T' fr hb
     simp only at hu0 hb
     cases sp with
     |none=>exact ⟨rfl,c,T',fr,hb⟩
     |some s=>simp at hu0
    ·cases hu0
   obtain ⟨rfl,c,T',fr,hblk⟩:=hsp;have hget:∀i,i < len→∀j,j < n→∃u,c[off+i * n+j]? =some u:=by
    intro i hi j hj;obtain ⟨u,hu⟩:=hcell i hi j hj;rw [Be,Be] at hu;simp only [World.cell?,hblk] at hu;exact ⟨u,by simpa using hu⟩
   have hlast:=hget (len - 1) (by omega) (n - 1) (by omega);obtain ⟨ul,hul⟩:=hlast;have hsz:off+len * n≤c.size:=by
    have:=(Array.getElem?_eq_some_iff.1 hul).1;have e1:(len - 1) * n+n=len * n:=by rw [←Nat.succ_mul];congr 1;omega
    omega
   have hclen:((c.toList.drop off).take (len * n)).length=len * n:=by
    rw [List.length_take,List.length_drop,Array.length_toList];omega
   refine ⟨(c.toList.drop off).take (len * n),len,⟨hclen,_,cap,rfl,hle,fun _=>⟨b,off,c,T',fr,rfl,hblk,fun j u hu=>?_⟩⟩,hb,fun i hi=>?_⟩
   ·rw [List.getElem?_take] at hu;split at hu
    ·rw [List.getElem?_drop] at hu;simpa using hu
    ·cases hu
   ·obtain ⟨ec,hec,htr⟩:=h i hi;have:((((c.toList.drop off).take (len * n)).drop (i * n)).take n)=ec:=by
     unfold World.cells? at hec;split at hec
     ·apply List.ext_getElem?
      intro j;have hln:=mapM_len _ _ hec;simp only [List.length_range] at hln;have hin:i * n+n≤len * n:=by rw [←Nat.succ_mul];exact Nat.mul_le_mul_right n hi
      by_cases hj:j < n
      ·obtain ⟨y,hy,hcy⟩:=LG _ _ hec j j (List.getElem?_range hj);rw [hy,List.getElem?_take,if_pos hj,List.getElem?_drop,List.getElem?_take,if_pos (by omega),List.getElem?_drop];rw [Be,Be] at hcy;simp only [World.cell?,hblk] at hcy;simp only [Array.getElem?_toList];rw [show off+(i * n+j)=off+i * n+j from by omega];simpa using hcy
      ·rw [List.getElem?_take,if_neg hj];rw [List.getElem?_eq_none (by omega)]
     ·cases hec
    rw [this];exact htr
theorem Tn {α:Type}{R:α→List Value→Prop}{n:Nat}:∀(len:Nat) (cells:List Value),cells.length=len * n→(∀i,i < len→∃x,R x ((cells.drop (i * n)).take n))→∃xs:List α,xs.length=len∧Recs R n xs cells
 |0,cells,hl,_=>⟨[],rfl,List.eq_nil_of_length_eq_zero (by simpa using hl)⟩
 |len+1,cells,hl,h=>by
  obtain ⟨x,hx⟩:=h 0 (by omega);simp only [Nat.zero_mul,List.drop_zero] at hx;have hl':cells.length=len * n+n:=by rw [hl,Nat.add_mul];omega
  obtain ⟨xs,hxl,hR⟩:=Tn (R:=R) (n:=n) len (cells.drop n) (by rw [List.length_drop];omega) (fun i hi=>by
   obtain ⟨y,hy⟩:=h (i+1) (by omega);refine ⟨y,?_⟩;rw [List.drop_drop];rwa [show n+i * n=(i+1) * n from by rw [Nat.add_mul];omega])
  exact ⟨x::xs,by simp [hxl],by rw [List.length_take];omega,hx,hR⟩
theorem Nb {α:Type}{R:α→List Value→Prop}{e:TypeId}(hu:P.underlying T=some (.slice e))(hn:0 < P.cellsOf e){v:Value}(h:TrR rz P w T [v])(hR:∀c,TrR rz P w e c→∃x,R x c):
  ∃cells,∃xs:List α,SlI (Eo w) (P.cellsOf e) v cells xs.length∧Recs R (P.cellsOf e) xs cells∧xs.length * P.bytesOf e≤rz:=by
 obtain ⟨cells,len,hS,hb,hT⟩:=AGD hu hn h;obtain ⟨xs,hxl,hRR⟩:=Tn (R:=R) len cells hS.1 (fun i hi=>hR _ (hT i hi));subst hxl;exact ⟨cells,xs,hS,hRR,hb⟩
theorem wf_u8 {n:Int}(h:(Lit.int .u8 n).wf=true):0≤n∧n≤255:=by
 have e1:IntKind.u8.min=0:=by decide
 have e2:IntKind.u8.max=255:=by decide
 simp only [Lit.wf,e1,e2,Bool.and_eq_true,decide_eq_true_eq] at h;exact h
theorem wf_i64 {n:Int}(h:(Lit.int .i64 n).wf=true): -9223372036854775808≤n∧n≤9223372036854775807:=by
 have e1:IntKind.i64.min= -9223372036854775808:=by decide
 have e2:IntKind.i64.max=9223372036854775807:=by decide
 simp only [Lit.wf,e1,e2,Bool.and_eq_true,decide_eq_true_eq] at h;exact h
theorem AKq {e:TypeId}(hu:P.underlying T=some (.slice e))(he:P.underlying e=some (.int .i64))(hn:P.cellsOf e=1)(hb:P.bytesOf e=8){v:Value}(h:TrR rz P w T [v]):
  ∃l,Ints (Eo w) v l∧l.length * 8≤rz∧∀x∈l, -9223372036854775808≤x∧x≤9223372036854775807:=by
 obtain ⟨cells,xs,hS,hR,hlen⟩:=Nb (R:=fun (x:Int) c=>c=[.int .i64 x]∧ -9223372036854775808≤x∧x≤9223372036854775807) hu (by omega) h (fun c hc=>by
  obtain ⟨n,rfl,hwf⟩:=FZ he hc;exact ⟨n,rfl,wf_i64 hwf⟩)
 rw [hn] at hS hR;have key:cells=AJf xs∧∀x∈xs, -9223372036854775808≤x∧x≤9223372036854775807:=by
  clear hS hlen;induction xs generalizing cells with
  |nil=>exact ⟨hR,fun x hx=>(List.not_mem_nil hx).elim⟩
  |cons x xs ih=>
   obtain ⟨h1,h2,h3⟩:=hR;obtain ⟨h4,h5⟩:=ih _ h3;refine ⟨?_,fun y hy=>?_⟩
   ·rw [←List.take_append_drop 1 cells,h2.1,h4];rfl
   ·rcases List.mem_cons.1 hy with rfl|hy
    ·exact h2.2
    ·exact h5 y hy
 obtain ⟨rfl,hx⟩:=key;exact ⟨xs,hS,by rw [hb] at hlen;exact hlen,hx⟩
theorem Hf {e:TypeId}(hu:P.underlying T=some (.slice e))(he:P.underlying e=some (.int .u8))(hn:P.cellsOf e=1)(hb:P.bytesOf e=1){v:Value}(h:TrR rz P w T [v]):
  ∃l,Bytes (Eo w) v l∧l.length≤rz:=by
 obtain ⟨cells,xs,hS,hR,hlen⟩:=Nb (R:=fun (x:UInt8) c=>c=[.int .u8 x.toNat]) hu (by omega) h (fun c hc=>by
  obtain ⟨n,rfl,hwf⟩:=FZ he hc;obtain ⟨h1,h2⟩:=wf_u8 hwf;refine ⟨UInt8.ofNat n.toNat,?_⟩;simp;omega)
 rw [hn] at hS hR;refine ⟨xs,?_,by rw [hb] at hlen;omega⟩;have:cells=u8s xs:=by
  clear hS hlen;induction xs generalizing cells with
  |nil=>exact hR
  |cons x xs ih=>
   obtain ⟨h1,h2,h3⟩:=hR;have:=ih _ h3;rw [←List.take_append_drop 1 cells,h2,this];rfl
 subst this;exact hS
variable {r:Reach}{base:Nat}{v:Value}
theorem Uh {e:TypeId}(hu:P.underlying T=some (.slice e))(o:Value.okWide P w r base T v)(t:TrR rz P w T v.cells.toList):TrR rz P w T [v]:=by
 obtain ⟨a,len,cap,rfl⟩:=WideShapes.okWide_slice hu o;exact t
theorem Qn {fs:Array Field}(hu:P.underlying T=some (.struct fs))(o:Value.okWide P w r base T v)(t:TrR rz P w T v.cells.toList):∃cs:List Value,v= .agg cs.toArray∧TrR rz P w T cs:=by
 simp only [Value.okWide,hu] at o;obtain ⟨cs,rfl,_⟩:=o;exact ⟨cs.toList,by simp,t⟩
end
def LQ (n:Int):Prop:= -9223372036854775808≤n∧n≤9223372036854775807
def str (l:List UInt8):Value:=.string ⟨l.toArray⟩
def StrV (_:Imm)(x:List UInt8)(c:List Value):Prop:=c=[.string ⟨x.toArray⟩]
theorem StrV.mono {I I':Imm}{x:List UInt8}{c:List Value}(h:StrV I x c)(hI:Ext I I'):StrV I' x c:=h
theorem Bytes.len {I:Imm}{v:Value}{l:List UInt8}(h:Bytes I v l):lenV v=some (.int .i64 l.length):=by
 obtain ⟨_,a,c,rfl,_⟩:=h;rfl
theorem PR {α:Type}{R:α→List Value→Prop}{B:α→Prop}{n:Nat}(hB:∀x c,R x c→B x):∀{xs:List α} {cells:List Value},Recs R n xs cells→∀x∈xs,B x
 |[],_,_,x,hx=>by cases hx
 |y::ys,_,⟨_,h2,h3⟩,x,hx=>by
  rcases List.mem_cons.1 hx with rfl|hx
  ·exact hB _ _ h2
  ·exact PR hB h3 x hx
section
variable {rz:Nat}{P:Program}{W:World}{T:TypeId}
theorem Bp {cs:List Value}{fs:Array Field}{f:Field}(i:Nat){n:Nat}(hu:P.underlying T=some (.struct fs))(h:TrR rz P W T cs)(hi:fs.toList[i]? =some f)(hc:P.cellsOf f.type=n):
  TrR rz P W f.type ((cs.drop f.offset).take n):=by
 have:=(GX hu h).2 f (List.mem_of_getElem? hi);rwa [hc] at this
end
end Go.SL
namespace Go.Proofs.YtmmfcgbfbcamcaaGreatDoor
open Go.SL
structure TStamp where
 fWall:Int
 fLogic:Int
instance:Inhabited TStamp:=⟨⟨0,0⟩⟩
def Oc (I:Imm)(x:TStamp)(c:List Value):Prop:=c=[.int .i64 x.fWall,.int .i64 x.fLogic]
def Od (rz:Nat)(x:TStamp):Prop:=LQ x.fWall∧LQ x.fLogic
theorem ABy:Tryz.prog.cellsOf 41=2:=by kernel_rfl
theorem JV {rz:Nat}{W:World}{cs:List Value}(h:TrR rz Tryz.prog W 41 cs):∃x,Od rz x∧Oc (Eo W) x cs:=by
 have hl:=(GX Tryz.underlying41 h).1;rw [ABy] at hl;obtain ⟨c0,c1,rfl⟩:∃c0 c1,cs=[c0,c1]:=by
  match cs,hl with
  |[c0,c1],_=>exact ⟨c0,c1,rfl⟩
 obtain ⟨n0,e0,w0⟩:=FZ Tryz.underlying3 (cs:=[c0]) (Bp 0 Tryz.underlying41 h rfl (n:=1) (by kernel_rfl));simp only [List.cons.injEq,and_true] at e0;subst e0;obtain ⟨n1,e1,w1⟩:=FZ Tryz.underlying3 (cs:=[c1]) (Bp 1 Tryz.underlying41 h rfl (n:=1) (by kernel_rfl));simp only [List.cons.injEq,and_true] at e1;subst e1;exact ⟨⟨n0,n1⟩,⟨wf_i64 w0,wf_i64 w1⟩,rfl⟩
structure TSpan where
 fFrom:List UInt8
 fTo:List UInt8
instance:Inhabited TSpan:=⟨⟨[],[]⟩⟩
def TSpanV (I:Imm)(x:TSpan)(c:List Value):Prop:=∃v0 v1,c=[v0,v1]∧Bytes I v0 x.fFrom∧Bytes I v1 x.fTo
theorem TSpanV.mono {I I':Imm}{x:TSpan}{c:List Value}(h:TSpanV I x c)(hI:Ext I I'):TSpanV I' x c:=by
 obtain ⟨v0,v1,rfl,h0,h1⟩:=h;exact ⟨v0,v1,rfl,h0.mono hI,h1.mono hI⟩
def ADL (rz:Nat)(x:TSpan):Prop:=x.fFrom.length≤rz∧x.fTo.length≤rz
theorem AFW:Tryz.prog.cellsOf 31=2:=by kernel_rfl
theorem Ls {rz:Nat}{W:World}{cs:List Value}(h:TrR rz Tryz.prog W 31 cs):∃x,ADL rz x∧TSpanV (Eo W) x cs:=by
 have hl:=(GX Tryz.underlying31 h).1;rw [AFW] at hl;obtain ⟨c0,c1,rfl⟩:∃c0 c1,cs=[c0,c1]:=by
  match cs,hl with
  |[c0,c1],_=>exact ⟨c0,c1,rfl⟩
 obtain ⟨n0,h0,w0⟩:=Hf Tryz.underlying29 Tryz.underlying5 (by kernel_rfl) (by kernel_rfl) (v:=c0) (Bp 0 Tryz.underlying31 h rfl (n:=1) (by kernel_rfl));obtain ⟨n1,h1,w1⟩:=Hf Tryz.underlying29 Tryz.underlying5 (by kernel_rfl) (by kernel_rfl) (v:=c1) (Bp 1 Tryz.underlying31 h rfl (n:=1) (by kernel_rfl));exact ⟨⟨n0,n1⟩,⟨w0,w1⟩,⟨_,_,rfl,h0,h1⟩⟩
structure TGot where
 fFound:Bool
 fValue:List UInt8
 fAt:TStamp
 fBy:Int
instance:Inhabited TGot:=⟨⟨false,[],default,0⟩⟩
structure TKV where
 fKey:List UInt8
 fValue:List UInt8
instance:Inhabited TKV:=⟨⟨[],[]⟩⟩
def TKVV (I:Imm)(x:TKV)(c:List Value):Prop:=∃v0 v1,c=[v0,v1]∧Bytes I v0 x.fKey∧Bytes I v1 x.fValue
theorem TKVV.mono {I I':Imm}{x:TKV}{c:List Value}(h:TKVV I x c)(hI:Ext I I'):TKVV I' x c:=by
 obtain ⟨v0,v1,rfl,h0,h1⟩:=h;exact ⟨v0,v1,rfl,h0.mono hI,h1.mono hI⟩
structure TOp where
 fDel:Bool
 fKey:List UInt8
 fValue:List UInt8
instance:Inhabited TOp:=⟨⟨false,[],[]⟩⟩
structure TIntent where
 fKey:List UInt8
 fTxn:Int
 fAt:TStamp
 fDel:Bool
 fValue:List UInt8
instance:Inhabited TIntent:=⟨⟨[],0,default,false,[]⟩⟩
def TIntentV (I:Imm)(x:TIntent)(c:List Value):Prop:=∃v0 v1,c=[v0,.int .i64 x.fTxn,.int .i64 x.fAt.fWall,.int .i64 x.fAt.fLogic,.bool x.fDel,v1]∧Bytes I v0 x.fKey∧Bytes I v1 x.fValue
theorem TIntentV.mono {I I':Imm}{x:TIntent}{c:List Value}(h:TIntentV I x c)(hI:Ext I I'):TIntentV I' x c:=by
 obtain ⟨v0,v1,rfl,h0,h1⟩:=h;exact ⟨v0,v1,rfl,h0.mono hI,h1.mono hI⟩
theorem TIntentV.one {I:Imm}{x:TIntent}{c:List Value}(h:TIntentV I x c):∀u∈c,u.oneCell'=true:=by
 obtain ⟨v0,v1,rfl,h0,h1⟩:=h;obtain ⟨_,_,rfl⟩:=Bytes.form h0;obtain ⟨_,_,rfl⟩:=Bytes.form h1;exact AE rfl
structure TVersion where
 fKey:List UInt8
 fAt:TStamp
 fDel:Bool
 fValue:List UInt8
instance:Inhabited TVersion:=⟨⟨[],default,false,[]⟩⟩
def TVersionV (I:Imm)(x:TVersion)(c:List Value):Prop:=∃v0 v1,c=[v0,.int .i64 x.fAt.fWall,.int .i64 x.fAt.fLogic,.bool x.fDel,v1]∧Bytes I v0 x.fKey∧Bytes I v1 x.fValue
theorem TVersionV.mono {I I':Imm}{x:TVersion}{c:List Value}(h:TVersionV I x c)(hI:Ext I I'):TVersionV I' x c:=by
 obtain ⟨v0,v1,rfl,h0,h1⟩:=h;exact ⟨v0,v1,rfl,h0.mono hI,h1.mono hI⟩
theorem TVersionV.one {I:Imm}{x:TVersion}{c:List Value}(h:TVersionV I x c):∀u∈c,u.oneCell'=true:=by
 obtain ⟨v0,v1,rfl,h0,h1⟩:=h;obtain ⟨_,_,rfl⟩:=Bytes.form h0;obtain ⟨_,_,rfl⟩:=Bytes.form h1;exact AE rfl
structure TVer where
 fAt:TStamp
 fDel:Bool
 fValue:List UInt8
instance:Inhabited TVer:=⟨⟨default,false,[]⟩⟩
def TVerV (I:Imm)(x:TVer)(c:List Value):Prop:=c=[.int .i64 x.fAt.fWall,.int .i64 x.fAt.fLogic,.bool x.fDel,.string ⟨x.fValue.toArray⟩]
theorem TVerV.mono {I I':Imm}{x:TVer}{c:List Value}(h:TVerV I x c)(hI:Ext I I'):TVerV I' x c:=by
 obtain rfl:=h;exact rfl
structure TCmd where
 fKind:Int
 fTxn:Int
 fSeq:Int
 fAt:TStamp
 fTo:TStamp
 fBy:Int
 fYes:Bool
 fDel:Bool
 fKey:List UInt8
 fValue:List UInt8
 fSpan:TSpan
 fMost:Int
instance:Inhabited TCmd:=⟨⟨0,0,0,default,default,0,false,false,[],[],default,0⟩⟩
def TCmdV (I:Imm)(x:TCmd)(c:List Value):Prop:=∃v0 v1 v2 v3,c=[.int .i64 x.fKind,.int .i64 x.fTxn,.int .i64 x.fSeq,.int .i64 x.fAt.fWall,.int .i64 x.fAt.fLogic,.int .i64 x.fTo.fWall,.int .i64 x.fTo.fLogic,.int .i64 x.fBy,.bool x.fYes,.bool x.fDel,v0,v1,v2,v3,.int .i64 x.fMost]∧Bytes I v0 x.fKey∧Bytes I v1 x.fValue∧Bytes I v2 x.fSpan.fFrom∧Bytes I v3 x.fSpan.fTo
theorem TCmdV.mono {I I':Imm}{x:TCmd}{c:List Value}(h:TCmdV I x c)(hI:Ext I I'):TCmdV I' x c:=by
 obtain ⟨v0,v1,v2,v3,rfl,h0,h1,h2,h3⟩:=h;exact ⟨v0,v1,v2,v3,rfl,h0.mono hI,h1.mono hI,h2.mono hI,h3.mono hI⟩
def ADM (rz:Nat)(x:TCmd):Prop:=LQ x.fKind∧LQ x.fTxn∧LQ x.fSeq∧Od rz x.fAt∧Od rz x.fTo∧LQ x.fBy∧x.fKey.length≤rz∧x.fValue.length≤rz∧ADL rz x.fSpan∧LQ x.fMost
theorem Ry:Tryz.prog.cellsOf 56=15:=by kernel_rfl
theorem AIz:Tryz.prog.bytesOf 56=176:=by kernel_rfl
theorem Vt {rz:Nat}{W:World}{cs:List Value}(h:TrR rz Tryz.prog W 56 cs):∃x,ADM rz x∧TCmdV (Eo W) x cs:=by
 have hl:=(GX Tryz.underlying56 h).1;rw [Ry] at hl;obtain ⟨c0,c1,c2,c3,c4,c5,c6,c7,c8,c9,c10,c11,c12,c13,c14,rfl⟩:∃c0 c1 c2 c3 c4 c5 c6 c7 c8 c9 c10 c11 c12 c13 c14,cs=[c0,c1,c2,c3,c4,c5,c6,c7,c8,c9,c10,c11,c12,c13,c14]:=by
  match cs,hl with
  |[c0,c1,c2,c3,c4,c5,c6,c7,c8,c9,c10,c11,c12,c13,c14],_=>exact ⟨c0,c1,c2,c3,c4,c5,c6,c7,c8,c9,c10,c11,c12,c13,c14,rfl⟩
 obtain ⟨n0,e0,w0⟩:=FZ Tryz.underlying3 (cs:=[c0]) (Bp 0 Tryz.underlying56 h rfl (n:=1) (by kernel_rfl));simp only [List.cons.injEq,and_true] at e0;subst e0;obtain ⟨n1,e1,w1⟩:=FZ Tryz.underlying3 (cs:=[c1]) (Bp 1 Tryz.underlying56 h rfl (n:=1) (by kernel_rfl));simp only [List.cons.injEq,and_true] at e1;subst e1;obtain ⟨n2,e2,w2⟩:=FZ Tryz.underlying3 (cs:=[c2]) (Bp 2 Tryz.underlying56 h rfl (n:=1) (by kernel_rfl));simp only [List.cons.injEq,and_true] at e2;subst e2;obtain ⟨n3,w3,e3⟩:=JV (cs:=[c3,c4]) (Bp 3 Tryz.underlying56 h rfl (n:=2) (by kernel_rfl));simp only [Oc,List.cons.injEq,and_true] at e3;obtain ⟨rfl,rfl⟩:=e3;obtain ⟨n4,w4,e4⟩:=JV (cs:=[c5,c6]) (Bp 4 Tryz.underlying56 h rfl (n:=2) (by kernel_rfl));simp only [Oc,List.cons.injEq,and_true] at e4;obtain ⟨rfl,rfl⟩:=e4;obtain ⟨n5,e5,w5⟩:=FZ Tryz.underlying3 (cs:=[c7]) (Bp 5 Tryz.underlying56 h rfl (n:=1) (by kernel_rfl));simp only [List.cons.injEq,and_true] at e5;subst e5;obtain ⟨n6,e6⟩:=SM Tryz.underlying4 (cs:=[c8]) (Bp 6 Tryz.underlying56 h rfl (n:=1) (by kernel_rfl));simp only [List.cons.injEq,and_true] at e6;subst e6;obtain ⟨n7,e7⟩:=SM Tryz.underlying4 (cs:=[c9]) (Bp 7 Tryz.underlying56 h rfl (n:=1) (by kernel_rfl));simp only [List.cons.injEq,and_true] at e7;subst e7;obtain ⟨n8,h8,w8⟩:=Hf Tryz.underlying29 Tryz.underlying5 (by kernel_rfl) (by kernel_rfl) (v:=c10) (Bp 8 Tryz.underlying56 h rfl (n:=1) (by kernel_rfl))
 obtain ⟨n9,h9,w9⟩:=Hf Tryz.underlying29 Tryz.underlying5 (by kernel_rfl) (by kernel_rfl) (v:=c11) (Bp 9 Tryz.underlying56 h rfl (n:=1) (by kernel_rfl));obtain ⟨n10,w10,u10_0,u10_1,e10,h10_0,h10_1⟩:=Ls (cs:=[c12,c13]) (Bp 10 Tryz.underlying56 h rfl (n:=2) (by kernel_rfl));simp only [List.cons.injEq,and_true] at e10;obtain ⟨rfl,rfl⟩:=e10;obtain ⟨n11,e11,w11⟩:=FZ Tryz.underlying3 (cs:=[c14]) (Bp 11 Tryz.underlying56 h rfl (n:=1) (by kernel_rfl));simp only [List.cons.injEq,and_true] at e11;subst e11;exact ⟨⟨n0,n1,n2,n3,n4,n5,n6,n7,n8,n9,n10,n11⟩,⟨wf_i64 w0,wf_i64 w1,wf_i64 w2,w3,w4,wf_i64 w5,w8,w9,w10,wf_i64 w11⟩,⟨_,_,_,_,rfl,h8,h9,h10_0,h10_1⟩⟩
structure TRes where
 fCode:Int
 fGot:TGot
 fRows:List TKV
 fAt:TStamp
 fBy:Int
 fState:Int
instance:Inhabited TRes:=⟨⟨0,default,[],default,0,0⟩⟩
def TResV (I:Imm)(x:TRes)(c:List Value):Prop:=∃v0 v1,c=[.int .i64 x.fCode,.bool x.fGot.fFound,v0,.int .i64 x.fGot.fAt.fWall,.int .i64 x.fGot.fAt.fLogic,.int .i64 x.fGot.fBy,v1,.int .i64 x.fAt.fWall,.int .i64 x.fAt.fLogic,.int .i64 x.fBy,.int .i64 x.fState]∧Bytes I v0 x.fGot.fValue∧RL TKVV 2 I [] v1 x.fRows
theorem TResV.mono {I I':Imm}{x:TRes}{c:List Value}(h:TResV I x c)(hI:Ext I I'):TResV I' x c:=by
 obtain ⟨v0,v1,rfl,h0,h1⟩:=h;exact ⟨v0,v1,rfl,h0.mono hI,RL.mono (fun _ _ h=>TKVV.mono h hI) h1 hI (fun _ h=>by cases h)⟩
theorem TResV.len {I:Imm}{x:TRes}{c:List Value}(h:TResV I x c):c.length=11:=by
 obtain ⟨v0,v1,rfl,h0,h1⟩:=h;rfl
theorem TResV.one {I:Imm}{x:TRes}{c:List Value}(h:TResV I x c):∀u∈c,u.oneCell'=true:=by
 obtain ⟨v0,v1,rfl,h0,h1⟩:=h;obtain ⟨_,_,rfl⟩:=Bytes.form h0;obtain ⟨_,_,rfl⟩:=RL.form h1;exact AE rfl
structure TMarkR where
 fKey:List UInt8
 fAt:TStamp
 fBy:Int
instance:Inhabited TMarkR:=⟨⟨[],default,0⟩⟩
structure TRecR where
 fTxn:Int
 fState:Int
 fAt:TStamp
instance:Inhabited TRecR:=⟨⟨0,0,default⟩⟩
structure TSeenR where
 fTxn:Int
 fSeq:Int
 fCode:Int
 fAt:TStamp
instance:Inhabited TSeenR:=⟨⟨0,0,0,default⟩⟩
structure TMk where
 fAt:TStamp
 fBy:Int
instance:Inhabited TMk:=⟨⟨default,0⟩⟩
structure TRc where
 fState:Int
 fAt:TStamp
instance:Inhabited TRc:=⟨⟨0,default⟩⟩
structure TSn where
 fSeq:Int
 fCode:Int
 fAt:TStamp
instance:Inhabited TSn:=⟨⟨0,0,default⟩⟩
end Go.Proofs.YtmmfcgbfbcamcaaGreatDoor
namespace Go.SL
abbrev blt:List UInt8→List UInt8→Bool:=Op.bytesLess
theorem Gt (a:List UInt8):(⟨a.toArray⟩:ByteArray).toList=a:=by simp [Go.ByteArray.toList_mk]
theorem IL (a:List UInt8):(⟨a.toArray⟩:ByteArray).size=a.length:=by simp [ByteArray.size]
section
variable (a b:List UInt8)
theorem sEq:Ao .eql (.string ⟨a.toArray⟩) (.string ⟨b.toArray⟩)=some (.bool (a==b)):=by simp only [Ao,Gt]
theorem sNe:Ao .neq (.string ⟨a.toArray⟩) (.string ⟨b.toArray⟩)=some (.bool (!(a==b))):=by simp only [Ao,Gt]
theorem sLt:Ao .lss (.string ⟨a.toArray⟩) (.string ⟨b.toArray⟩)=some (.bool (blt a b)):=by simp only [Ao,Gt]
theorem sLe:Ao .leq (.string ⟨a.toArray⟩) (.string ⟨b.toArray⟩)=some (.bool (blt a b||a==b)):=by simp only [Ao,Gt]
theorem sGt:Ao .gtr (.string ⟨a.toArray⟩) (.string ⟨b.toArray⟩)=some (.bool (!(blt a b||a==b))):=by simp only [Ao,Gt]
theorem sGe:Ao .geq (.string ⟨a.toArray⟩) (.string ⟨b.toArray⟩)=some (.bool (!(blt a b))):=by simp only [Ao,Gt]
theorem AJO:Ty (.string ⟨a.toArray⟩)=some (.int .i64 a.length):=by rw [AFH,IL]
end
theorem SN (a b c d:Int):Bd .eql [(TypeDesc.int .i64,0),(TypeDesc.int .i64,1)] (.agg #[.int .i64 a,.int .i64 b]) (.agg #[.int .i64 c,.int .i64 d])=some (.bool ((a==c)&&(b==d))):=by
 simp [Bd,JQ,eqD]
theorem Jg (a b c d:Int):Bd .neq [(TypeDesc.int .i64,0),(TypeDesc.int .i64,1)] (.agg #[.int .i64 a,.int .i64 b]) (.agg #[.int .i64 c,.int .i64 d])=some (.bool !((a==c)&&(b==d))):=by
 simp [Bd,JQ,eqD]
theorem QB (off n:Nat)(l:List Value):Er true off n (.agg l.toArray)=some (.agg ((l.drop off).take n).toArray):=by
 simp only [Er,if_true];congr 2
 apply Array.ext'
 simp [List.take_drop,Nat.add_comm]
theorem QA (off n:Nat)(l:List Value):Er false off n (.agg l.toArray)=l[off]? :=by
 simp [Er]
theorem UJ (a:List UInt8):blt a []=false:=by cases a <;> rfl
theorem Bx:∀a:List UInt8,blt a a=false
 |[]=>rfl
 |x::a=>by simp [Op.bytesLess,Bx a]
theorem Ct:∀{a b c:List UInt8},blt a b=true→blt b c=true→blt a c=true
 |_,[],_,h,_=>by rw [UJ] at h;cases h
 |_,_::_,[],_,h=>by simp [Op.bytesLess] at h
 |[],_::_,_::_,_,_=>rfl
 |x::a,y::b,z::c,h1,h2=>by
  simp only [Op.bytesLess,Bool.or_eq_true,Bool.and_eq_true,decide_eq_true_eq,beq_iff_eq] at h1 h2 ⊢;rcases h1 with h1|⟨rfl,h1⟩
  ·rcases h2 with h2|⟨rfl,h2⟩
   ·exact .inl (UInt8.lt_trans h1 h2)
   ·exact .inl h1
  ·rcases h2 with h2|⟨rfl,h2⟩
   ·exact .inl h2
   ·exact .inr ⟨rfl,Ct h1 h2⟩
theorem Ds:∀(a b:List UInt8),blt a b=false→blt b a=false→a=b
 |[],[],_,_=>rfl
 |[],_::_,h,_=>by simp [Op.bytesLess] at h
 |_::_,[],_,h=>by simp [Op.bytesLess] at h
 |x::a,y::b,h1,h2=>by
  simp only [Op.bytesLess,Bool.or_eq_false_iff,Bool.and_eq_false_iff,decide_eq_false_iff_not,beq_eq_false_iff_ne,ne_eq] at h1 h2;have hxy:x=y:=by
   rw [←UInt8.toNat_inj];have a1:=h1.1;have a2:=h2.1;rw [UInt8.lt_iff_toNat_lt] at a1 a2;omega
  subst hxy;rw [Ds a b (h1.2.resolve_left (by simp)) (h2.2.resolve_left (by simp))]
theorem CO {a b:List UInt8}(h:blt a b=true):blt b a=false:=by
 cases hb:blt b a with
 |false=>rfl
 |true=>have:=Ct h hb;rw [Bx] at this;cases this
def HU (a b:List UInt8):Int:=if blt a b then -1 else if blt b a then 1 else 0
theorem find_range_succ (p:Nat→Bool)(n:Nat):(List.range (n+1)).find? p=if p 0 then some 0 else ((List.range n).find? fun i=>p (i+1)).map (·+1):=by
 rw [List.range_succ_eq_map,List.find?_cons];cases h:p 0
 ·simp only [List.find?_map,Bool.false_eq_true,if_false];rfl
 ·simp
def cmpL (a b:List UInt8):Int:=match (List.range (min a.length b.length)).find? fun i=>a.getD i 0 != b.getD i 0 with
 |some i=>if a.getD i 0 < b.getD i 0 then -1 else 1
 |none=>if a.length < b.length then -1 else if a.length > b.length then 1 else 0
theorem OZ (a:List UInt8)(i:Nat):(⟨a.toArray⟩:ByteArray)[i]! =a.getD i 0:=by
 by_cases h:i < a.length
 ·have hs:i < (⟨a.toArray⟩:ByteArray).size:=by rw [IL];exact h
  rw [getElem!_pos (⟨a.toArray⟩:ByteArray) i hs];show a.toArray[i]'(by simpa using h)=_;simp [List.getD,h]
 ·have hs:¬i < (⟨a.toArray⟩:ByteArray).size:=by rw [IL];exact h
  rw [getElem!_neg (⟨a.toArray⟩:ByteArray) i hs];simp [List.getD,List.getElem?_eq_none (Nat.le_of_not_lt h)];rfl
theorem ABu (a b:List UInt8):Extern.BytealgCompare.cmp ⟨a.toArray⟩ ⟨b.toArray⟩=cmpL a b:=by
 unfold Extern.BytealgCompare.cmp cmpL;simp only [IL,OZ];rfl
theorem NS:∀a b:List UInt8,cmpL a b=HU a b
 |[],[]=>rfl
 |[],_::_=>by simp [cmpL,HU,Op.bytesLess]
 |_::_,[]=>by simp [cmpL,HU,Op.bytesLess]
 |x::a,y::b=>by
  have ih:=NS a b;unfold cmpL at ih ⊢;simp only [List.length_cons];rw [show min (a.length+1) (b.length+1)=min a.length b.length+1 from by omega,find_range_succ];simp only [List.getD_cons_zero,List.getD_cons_succ];by_cases hxy:x=y
  ·subst hxy;simp only [bne_self_eq_false,Bool.false_eq_true,if_false];have e:HU (x::a) (x::b)=HU a b:=by simp [HU,Op.bytesLess]
   rw [e,←ih];cases (List.range (min a.length b.length)).find? fun i=>a.getD i 0 != b.getD i 0 with
   |none=>simp
   |some i=>simp
  ·have hne:(x != y)=true:=by simpa using hxy
   simp only [hne,if_true,List.getD_cons_zero];by_cases hlt:x < y
   ·rw [if_pos hlt];simp [HU,Op.bytesLess,hlt]
   ·rw [if_neg hlt];have hgt:y < x:=by
     rw [UInt8.lt_iff_toNat_lt] at hlt ⊢;have:x.toNat≠y.toNat:=fun e=>hxy (UInt8.toNat_inj.1 e);omega
    have hyx:¬y=x:=fun e=>hxy e.symm;simp [HU,Op.bytesLess,hlt,hgt,hxy]
theorem AFY (a b:List UInt8):decide (HU a b < 0)=blt a b:=by
 unfold HU;cases blt a b <;> cases blt b a <;> rfl
theorem OY (a b:List UInt8):decide (0 < HU a b)=blt b a:=by
 unfold HU;cases h1:blt a b
 ·cases blt b a <;> rfl
 ·rw [CO h1];rfl
section
variable {P:Program}{ω:Om}{I:Imm}{L:LH}{K:Value→M}
theorem VL {w:World}{b off:Nat}{v:Value}(hs:St ω w I L)(hc:Cell I L b off v):(load ⟨b,off,none⟩).run P w= .ok v w:=by
 have:=hc.cell hs;simp [this]
theorem HC {w:World}(hs:St ω w I L):∀(l:List UInt8) (b off:Nat) (acc:ByteArray),Cells I L b off (u8s l)→(Extern.Bytes.loadBytes ⟨b,off,none⟩ l.length acc).run P w= .ok ⟨acc.data++l.toArray⟩ w
 |[],b,off,acc,_=>by
  have:(⟨acc.data++([]:List UInt8).toArray⟩:ByteArray)=acc:=by cases acc;simp
  rw [this];simp [Extern.Bytes.loadBytes]
 |x::l,b,off,acc,hc=>by
  have h0:Cell I L b off (.int .u8 x.toNat):=by simpa using hc 0 _ rfl
  have h1:Cells I L b (off+1) (u8s l):=fun j u hu=>by
   have:=hc (j+1) u (by simpa [u8s] using hu);rwa [show off+(j+1)=off+1+j from by omega] at this
  simp only [List.length_cons,Extern.Bytes.loadBytes,Sem.run_bind,VL (P:=P) hs h0,Result.andThen_ok];have e:(Addr.add ⟨b,off,none⟩ 1)=⟨b,off+1,none⟩:=Be _ _ _;rw [e,HC hs l b (off+1) _ h1];congr 1
  have:((x.toNat:Int).toNat.toUInt8)=x:=by simp
  rw [this];cases acc
  simp [ByteArray.push]
theorem FB {w:World}{v:Value}{l:List UInt8}(hs:St ω w I L)(h:Bytes I v l):(Extern.Bytes.bytesOf v).run P w= .ok ⟨l.toArray⟩ w:=by
 obtain ⟨hl,a,cap,rfl,_,h⟩:=h;cases a with
 |none=>
  have h0:l.length=0:=by
   apply Classical.byContradiction
   intro h0;obtain ⟨b,off,cs,T,fr,e,_⟩:=h h0;cases e
  have:l=[]:=List.eq_nil_of_length_eq_zero h0;subst this;simp only [Extern.Bytes.bytesOf,Sem.run_pure];rfl
 |some a=>
  simp only [Extern.Bytes.bytesOf];by_cases h0:l.length=0
  ·have:l=[]:=List.eq_nil_of_length_eq_zero h0;subst this;simp only [List.length_nil,Extern.Bytes.loadBytes,Sem.run_pure];rfl
  ·obtain ⟨b,off,cs,T,fr,e,hb,hcs⟩:=h h0;simp only [Option.some.injEq] at e;subst e;rw [HC hs l b off .empty (fun j u hu=>Cell.imm hb (hcs j u hu))];congr 1
   simp [ByteArray.empty,ByteArray.emptyWithCapacity];rfl
theorem AFV {x y:Value}{a b:List UInt8}(hx:Bytes I x a)(hy:Bytes I y b)(hk:K (.int .i64 (HU a b)) I L):Og P ω Extern.BytealgCompare.compare #[x,y] K I L:=by
 refine ⟨_,fun w hs=>?_,hk⟩;show Sem.run P (do pure (goInt (Extern.BytealgCompare.cmp (←Extern.Bytes.bytesOf x) (←Extern.Bytes.bytesOf y)))) w=_;simp only [Sem.run_bind,FB (P:=P) hs hx,FB (P:=P) hs hy,Result.andThen_ok,Sem.run_pure,goInt];rw [ABu,NS]
end
section
variable {I I0:Imm}{L L' X:LH}{K:Value→M}{b off n T:Nat}
theorem Af {l:List Value}{T:Nat}{fr:Nat×Nat}[h:InL b X (.cells l.toArray T fr)](vs:List Value)(he:(l.drop off).take n=vs)(hl:vs.length=n)(hk:K (.agg vs.toArray) I L):Rv (some (Stay I0 X)) (AF n (.pointer (some ⟨b,off,none⟩))) K I L:=
 ABD hl (fun I' L' hS j u hu=>Cell.own (hS.2 _ h.mem) (by
  subst he;rw [List.getElem?_take] at hu;split at hu
  ·rw [List.getElem?_drop] at hu;simpa using hu
  ·cases hu)) hk
theorem stP {l vs:List Value}(l':List Value)[h:InL b L (.cells l.toArray T (0,0))](he:l.take off++(vs++l.drop (off+n))=l')(hl:vs.length=n)(hleb:Nat.ble (off+n) l.length=true)(h1:vs.all (·.oneCell')=true)[u:UpL b L (.cells l.toArray T (0,0)) (.cells l'.toArray T (0,0)) L'](hk:K undef I L'):
  Sto n (.pointer (some ⟨b,off,none⟩)) (.agg vs.toArray) (gh K) I L:=by
 have hle:=Nat.le_of_ble_eq_true hleb;obtain ⟨L1,L2,rfl,rfl⟩:=u.up;refine ⟨b,off,l.toArray,T,L1,L2,rfl,by simp [Value.cells,hl],by simpa [Value.cells] using AE h1,by simpa using hle,rfl,?_⟩;simp only [Value.cells];rw [Oi vs l.toArray off (by simp;omega)];subst he;refine Gh.done ?_;rw [hl];simpa using hk
theorem EG {v:Value}{l:List UInt8}{I0:Imm}(h:Bytes I0 v l)(hI:Ext I0 I)(hk:K (.string ⟨l.toArray⟩) I L):Rv none (bsR v) K I L:=⟨_,Bytes.str (h.mono hI),hk⟩
theorem BS {v:Value}{l:List UInt8}{I1:Imm}{X:LH}(h:Bytes I0 v l)(hI:Ext I0 I1)(hk:K (.string ⟨l.toArray⟩) I L):Rv (some (Stay I1 X)) (bsR v) K I L:=
 ⟨_,fun I' L' hS=>Bytes.str (h.mono (hI.trans hS.1)),hk⟩
end
class MemB (x:Nat×Obj) (L:LH):Prop where
 mem:x∈L
instance memBRight (x:Nat×Obj)(A L:LH)[h:MemB x L]:MemB x (A++L):=⟨List.mem_append_right _ h.mem⟩
instance memBThere (x y:Nat×Obj)(L:LH)[h:MemB x L]:MemB x (y::L):=⟨List.mem_cons_of_mem _ h.mem⟩
instance memBHere (x:Nat×Obj)(L:LH):MemB x (x::L):=⟨List.mem_cons_self ..⟩
instance (priority:=70) lsubConsL (x:Nat×Obj)(X L:LH)[h:MemB x L][h':LSub X L]:LSub (x::X) L:=⟨fun y hy=>by
 rcases List.mem_cons.1 hy with rfl|hy
 ·exact h.mem
 ·exact h'.sub y hy⟩
class DelB (b:Nat) (L:LH) (L':outParam LH):Prop where
 sub:∀x∈L',x∈L
instance delBThere (b:Nat)(x:Nat×Obj)(L L':LH)[h:DelB b L L']:DelB b (x::L) (x::L'):=⟨fun y hy=>by
 rcases List.mem_cons.1 hy with rfl|hy
 ·exact List.mem_cons_self ..
 ·exact List.mem_cons_of_mem _ (h.sub y hy)⟩
instance delBHere (b:Nat)(o:Obj)(L:LH):DelB b ((b,o)::L) L:=⟨fun y hy=>List.mem_cons_of_mem _ hy⟩
theorem AJg {I:Imm}{L X:LH}{B:M→M}(b:Nat)[h:DelB b L X](hB:B (Stay I X) I L):Ac B I L:=draw _ ⟨Ext.refl I,h.sub⟩ hB
theorem AX {I:Imm}{L X:LH}{B:M→M}{b off:Nat}[h:DelB b L X](hB:B (Stay I X) I L):Lu [.pointer (some ⟨b,off,none⟩)] B I L:=draw _ ⟨Ext.refl I,h.sub⟩ hB
theorem AY {I:Imm}{L X Y:LH}{B:M→M}{b off c off':Nat}[h:DelB b L X][h':DelB c X Y](hB:B (Stay I Y) I L):Lu [.pointer (some ⟨b,off,none⟩),.pointer (some ⟨c,off',none⟩)] B I L:=draw _ ⟨Ext.refl I,fun x hx=>h.sub x (h'.sub x hx)⟩ hB
class PickB (b:Nat) (L:LH) (o:outParam Obj) (R:outParam LH):Prop where
 perm:L.Perm ((b,o)::R)
instance pickBRight (b:Nat)(o:Obj)(A L R:LH)[h:PickB b L o R]:PickB b (A++L) o (A++R):=⟨(List.Perm.append_left A h.perm).trans List.perm_middle⟩
instance pickBThere (b:Nat)(o:Obj)(y:Nat×Obj)(L R:LH)[h:PickB b L o R]:PickB b (y::L) o (y::R):=⟨(List.Perm.cons y h.perm).trans (List.Perm.swap ..)⟩
instance pickBHere (b:Nat)(o:Obj)(R:LH):PickB b ((b,o)::R) o R:=⟨List.Perm.refl _⟩
theorem Cal.pick {P:Program}{ω:Om}{f:FuncId}{args:Array Value}{K:Value→M}{I:Imm}{L R:LH}(b:Nat){o:Obj}[h:PickB b L o R](hc:Cal P ω f args K I ((b,o)::R)):Cal P ω f args K I L:=fun w hs=>hc w (hs.perm h.perm)
section
variable {α:Type}{R:Imm→α→List Value→Prop}{I:Imm}{T n bytes:Nat}{z:Array Value}{X6 L0 F:LH}{v:Value}{xs:List α}{x:α}{c cells:List Value}{K:Value→M}
theorem DY [SplitL X6 L0 F](hz:z.size=n)(hn:0 < n)(h6:SlO T n X6 v cells xs.length)(hR:Recs (R I) n xs cells)(hx:R I x c)(hcl:c.length=n)(h1:∀u∈c,u.oneCell'=true)(hb:(xs.length+1) * bytes≤150000000000000)(hl:xs.length+1≤150000000000000)
  (hk:∀X1 X6' v' cells',SlO T n X6' v' cells' (xs++[x]).length→Recs (R I) n (xs++[x]) cells'→K v' I (X6'++(X1++F))):
  Ay T n z 1 [(0,.agg c.toArray)] (gh fun u=>App T n bytes z v u (gh K)) I L0:=by
 refine Dg hz hn (by simpa [Value.cells] using hcl) (fun X1 u hX1=>?_);refine DJ (X:=X6) hz h6 (hX1.news (fun x hx=>List.mem_append_left _ hx)) (fun u hu=>h1 u (by simpa [Value.cells] using hu)) hb hl (fun X' v' hX'=>?_);exact hk X1 X' v' _ (by simpa [Value.cells] using hX') (Recs.append hR (Recs.one (by simpa [Value.cells] using hcl) (by simpa [Value.cells] using hx)))
theorem GF {I0:Imm}{Y:LH}[SplitL X6 L0 F](hI0:Ext I0 I)(hY:∀y∈Y,y∈L0)(hz:z.size=n)(hn:0 < n)(h6:SlO T n X6 v cells xs.length)(hR:Recs (R I) n xs cells)(hx:R I x c)(hcl:c.length=n)(h1:∀u∈c,u.oneCell'=true)(hb:(xs.length+1) * bytes≤150000000000000)(hl:xs.length+1≤150000000000000)
  (hk:∀X1 X6' a' c' cells',SlO T n X6' (.slice a' (xs++[x]).length c') cells' (xs++[x]).length→Recs (R I) n (xs++[x]) cells'→K (.slice a' (xs++[x]).length c') I (X6'++(X1++F))):
  Ay T n z 1 [(0,.agg c.toArray)] (gh (BN (Stay I0 Y) fun u=>App T n bytes z v u (gh K))) I L0:=by
 refine Dg hz hn (by simpa [Value.cells] using hcl) (fun X1 u hX1=>?_);refine JM hI0 (fun y hy=>List.mem_append_right _ (hY y hy)) ?_;refine DJ (X:=X6) hz h6 (hX1.news (fun x hx=>List.mem_append_left _ hx)) (fun u hu=>h1 u (by simpa [Value.cells] using hu)) hb hl (fun X' v' hX'=>?_);obtain ⟨a',c',rfl⟩:=hX'.form;have e:xs.length+1=(xs++[x]).length:=by simp
 rw [e] at hX' ⊢;exact hk X1 X' a' c' _ (by simpa [Value.cells] using hX') (Recs.append hR (Recs.one (by simpa [Value.cells] using hcl) (by simpa [Value.cells] using hx)))
end
end Go.SL
namespace Go.Proofs.YtmmfcgbfbcamcaaGreatDoor
open Go.SL
theorem SSd:type_of% (And.intro @Cc<|And.intro @ABh<|And.intro @ABM<|And.intro @ABN<|And.intro @ABZ<|And.intro @ABz<|And.intro @AJO<|And.intro @ABR<|And.intro @ABT<|And.intro @WA<|And.intro @SJ<|And.intro @SK<|And.intro @Tq<|And.intro @Tt<|And.intro @AFk<|And.intro @ABn<|And.intro @Qa<|And.intro @QR<|And.intro @QT<|And.intro @QY<|And.intro @QS<|And.intro @QU<|And.intro @QV<|And.intro @QW<|And.intro @QX<|And.intro @QZ<|And.intro @UK<|And.intro @Qd<|And.intro @Qc<|And.intro @sEq<|And.intro @sNe<|And.intro @sLt<|And.intro @sLe<|And.intro @sGt<|And.intro @sGe<|And.intro @SN<|And.intro @Jg<|And.intro @QB<|And.intro @QA<|And.intro @IH<|And.intro @IG<|And.intro @IJ<|And.intro @II<|And.intro @JU<|And.intro @JT<|And.intro @KK<|And.intro @IM<|And.intro @UP<|And.intro @UR<|And.intro @UQ<|And.intro @US<|And.intro @NT<|And.intro (@List.getElem?_toArray Value)<|And.intro (@List.getElem?_cons_zero Value)<|And.intro (@List.getElem?_cons_succ Value)<|And.intro @Nat.zero_add<|And.intro @Nat.add_zero<|And.intro @Nat.zero_mul<|And.intro (@List.drop_succ_cons Value)<|And.intro (@List.drop_zero Value)<|And.intro (@List.take_succ_cons Value)<|And.intro (@List.take_zero Value)<|And.intro (@List.nil_append Value)<|And.intro (@List.cons_append Value)<|And.intro (@List.drop_nil Value)<|And.intro (@List.take_nil Value)<|And.intro @AFw<|And.intro @AFv<|And.intro @AFu<|And.intro @AFt<|And.intro @AFs<|And.intro @AFr<|And.intro @AFq<|And.intro @AFp<|And.intro @AFo<|And.intro @ACv<|And.intro @ACu<|And.intro @ACt<|And.intro @ACs<|And.intro @ACr<|And.intro @ACq<|And.intro @ACp<|And.intro @ACo<|And.intro @ACn<|And.intro @ACm<|And.intro @ACl<|And.intro @ACk<|And.intro @ACj<|And.intro @ACi<|And.intro @ACh<|And.intro @ACg<|And.intro @ACf<|And.intro @ACe<|And.intro @ACd<|And.intro @ACc<|And.intro @ACb<|And.intro @ACa<|And.intro @ACZ<|And.intro @ACY<|And.intro @ACX<|And.intro @ACW<|And.intro @ACV<|And.intro @ACU<|And.intro @ACT<|And.intro @ACS<|And.intro @ACR<|And.intro @ACQ<|And.intro @ACP<|And.intro @ACO<|And.intro @ACN<|And.intro @ACM<|And.intro @ACL<|And.intro @ACK<|And.intro @ACJ<|And.intro @ACI<|And.intro (@List.nil_append (Nat×Obj))<|(@List.cons_append (Nat×Obj))):=And.intro @Cc<|And.intro @ABh<|And.intro @ABM<|And.intro @ABN<|And.intro @ABZ<|And.intro @ABz<|And.intro @AJO<|And.intro @ABR<|And.intro @ABT<|And.intro @WA<|And.intro @SJ<|And.intro @SK<|And.intro @Tq<|And.intro @Tt<|And.intro @AFk<|And.intro @ABn<|And.intro @Qa<|And.intro @QR<|And.intro @QT<|And.intro @QY<|And.intro @QS<|And.intro @QU<|And.intro @QV<|And.intro @QW<|And.intro @QX<|And.intro @QZ<|And.intro @UK<|And.intro @Qd<|And.intro @Qc<|And.intro @sEq<|And.intro @sNe<|And.intro @sLt<|And.intro @sLe<|And.intro @sGt<|And.intro @sGe<|And.intro @SN<|And.intro @Jg<|And.intro @QB<|And.intro @QA<|And.intro @IH<|And.intro @IG<|And.intro @IJ<|And.intro @II<|And.intro @JU<|And.intro @JT<|And.intro @KK<|And.intro @IM<|And.intro @UP<|And.intro @UR<|And.intro @UQ<|And.intro @US<|And.intro @NT<|And.intro (@List.getElem?_toArray Value)<|And.intro (@List.getElem?_cons_zero Value)<|And.intro (@List.getElem?_cons_succ Value)<|And.intro @Nat.zero_add<|And.intro @Nat.add_zero<|And.intro @Nat.zero_mul<|And.intro (@List.drop_succ_cons Value)<|And.intro (@List.drop_zero Value)<|And.intro (@List.take_succ_cons Value)<|And.intro (@List.take_zero Value)<|And.intro (@List.nil_append Value)<|And.intro (@List.cons_append Value)<|And.intro (@List.drop_nil Value)<|And.intro (@List.take_nil Value)<|And.intro @AFw<|And.intro @AFv<|And.intro @AFu<|And.intro @AFt<|And.intro @AFs<|And.intro @AFr<|And.intro @AFq<|And.intro @AFp<|And.intro @AFo<|And.intro @ACv<|And.intro @ACu<|And.intro @ACt<|And.intro @ACs<|And.intro @ACr<|And.intro @ACq<|And.intro @ACp<|And.intro @ACo<|And.intro @ACn<|And.intro @ACm<|And.intro @ACl<|And.intro @ACk<|And.intro @ACj<|And.intro @ACi<|And.intro @ACh<|And.intro @ACg<|And.intro @ACf<|And.intro @ACe<|And.intro @ACd<|And.intro @ACc<|And.intro @ACb<|And.intro @ACa<|And.intro @ACZ<|And.intro @ACY<|And.intro @ACX<|And.intro @ACW<|And.intro @ACV<|And.intro @ACU<|And.intro @ACT<|And.intro @ACS<|And.intro @ACR<|And.intro @ACQ<|And.intro @ACP<|And.intro @ACO<|And.intro @ACN<|And.intro @ACM<|And.intro @ACL<|And.intro @ACK<|And.intro @ACJ<|And.intro @ACI<|And.intro (@List.nil_append (Nat×Obj))<|(@List.cons_append (Nat×Obj))
theorem SSg:type_of% (And.intro @Bool.not_true<|And.intro @Bool.not_false<|And.intro @Bool.and_self<|And.intro @Bool.true_and<|And.intro @decide_true<|And.intro @decide_false<|And.intro @KK<|And.intro @IM<|And.intro @UP<|And.intro @UR<|And.intro @UQ<|@US):=And.intro @Bool.not_true<|And.intro @Bool.not_false<|And.intro @Bool.and_self<|And.intro @Bool.true_and<|And.intro @decide_true<|And.intro @decide_false<|And.intro @KK<|And.intro @IM<|And.intro @UP<|And.intro @UR<|And.intro @UQ<|@US
section
variable {ω:Om}{I:Imm}{L:LH}{K:Value→M}
theorem UB {a b:Int}(h:K (.int .i64 a) I L)(e:a=b):K (.int .i64 b) I L:=e ▸ h
theorem Rl {v w:Value}{a b:List UInt8}(hv:Bytes I v a)(hw:Bytes I w b)(hk:K (.bool (a==b)) I L):CT ω 77 #[v,w] K I L:=by
 refine AJx ?_;unfold AGL;refine EG hv (Ext.refl _) (EG hw (Ext.refl _) ?_);try simp only [SSd,Nat.reduceAdd]
 exact Gh.done hk
theorem LM {a:Int}(hk:K (.bool false) I L):CT ω 245 #[.int .i64 a] K I L:=by
 refine AHN ?_;unfold Wi;simp only [SSd,Nat.reduceAdd,bne_self_eq_false];exact Gh.done hk
def MN (a b:Int):Int:=if a < b then -1 else if b < a then 1 else 0
theorem MP {a b:Int}(hk:K (.int .i64 (MN a b)) I L):CT ω 220 #[.int .i64 a,.int .i64 b] K I L:=by
 refine AHc ?_;unfold sh220;refine call (LM ?_);refine call (LM ?_);repeat' (first|(with_reducible first|refine AK ?_|refine AX ?_|refine AY ?_|refine keepA ?_|refine AM (fun _=>?_)|refine rdb ?_)|((with_reducible first|refine st1 ?_ ?_|refine rdB ?_ ?_);rfl)|(with_reducible refine AV ?_)|((with_reducible refine Ae ?_ ?_);rfl)|((with_reducible refine stB ?_ ?_ ?_ ?_);rfl;rfl;exact AE rfl)|((with_reducible first|refine rdP _ rfl ?_ ?_|refine Af _ rfl ?_ ?_);rfl)|((with_reducible refine stP _ rfl ?_ ?_ ?_ ?_);rfl;rfl;rfl)|(with_reducible first|refine AO (sh220.eq_1 ..) ?_|refine And.intro ?_ ?_)|(simp only [SSg,Int.reduceBEq,Int.reduceBNe,Int.reduceLT,Int.reduceLE,beq_self_eq_true,bne_self_eq_false])|(with_reducible first|refine AH (fun _=>?_) (fun _=>?_)|refine AD (fun _=>?_) (fun _=>?_))|(simp only [SSd,Nat.reduceAdd]))
 all_goals (refine Gh.done (UB hk ?_);unfold MN;repeat' split)
 all_goals (simp_all <;> omega)
theorem AFB {bb off cap:Nat}{a b:Int}(h:Cells I L bb off [.int .i64 a,.int .i64 b])(hk:K (.int .i64 (if a≠0 then a else b)) I L):CT ω 219 #[.slice (some ⟨bb,off,none⟩) 2 cap] K I L:=by
 refine AHd ?_;unfold XV;try simp only [SSd,Nat.reduceAdd]
 refine loop (fun m s I' L'=>I'=I∧L'=L∧∃k:Nat,k+m=2∧s=(.int .i64 0,.int .i64 k,())∧(0 < k→a=0)∧(1 < k→b=0)) 2 ⟨rfl,rfl,0,rfl,rfl,by omega,by omega⟩ ?_;rintro m s I' L' ⟨rfl,rfl,k,hkm,rfl,h1,h2⟩;unfold Sk;try simp only [SSd,Nat.reduceAdd]
 refine AD (fun hlt=>?_) (fun hlt=>?_)
 ·simp at hlt;have hix:=Gp bb off 1 .i64 2 cap k (by omega) (by omega);have hc:Cell I' L' bb (off+(k:Int).toNat * 1) (.int .i64 (EY [a,b] (k:Int))):=by
   match k,hlt with
   |0,_=>exact h 0 _ rfl
   |1,_=>exact h 1 _ rfl
  simp only [hix,SSd,Nat.reduceAdd];refine rd1 hc ?_;simp only [SSd,Nat.reduceAdd,wrap_i64 ((k:Int)+1) (by omega)];refine AD (fun h0=>Gh.done (UB hk ?_)) (fun h0=>Gh.done ⟨m - 1,by omega,rfl,rfl,k+1,by omega,by simp,?_,?_⟩)
  ·match k,h1,h2,hlt,h0 with
   |0,_,_,_,h0=>simp [EY] at h0 ⊢;intro e;exact absurd e h0
   |1,h1,_,_,h0=>simp [EY,h1]
  ·intro _;match k,h1,h2,hlt,h0 with
   |0,_,_,_,h0=>simpa [EY] using h0
   |1,h1,_,_,h0=>exact h1 (by omega)
  ·intro _;match k,h1,h2,hlt,h0 with
   |0,_,_,_,h0=>omega
   |1,h1,_,_,h0=>simpa [EY] using h0
 ·simp at hlt;have e1:=h1 (by omega);have e2:=h2 (by omega);exact Gh.done (UB hk (by simp [e1,e2]))
def MA (a b:TStamp):Int:=if MN a.fWall b.fWall≠0 then MN a.fWall b.fWall else MN a.fLogic b.fLogic
def bhd (a b:TStamp):Bool:=decide (b.fWall < a.fWall∨(a.fWall=b.fWall∧b.fLogic < a.fLogic))
theorem Kb (a b:TStamp):decide (MA a b > 0)=bhd a b:=by
 unfold MA bhd MN;by_cases h1:a.fWall < b.fWall <;> by_cases h2:b.fWall < a.fWall <;> by_cases h3:a.fLogic < b.fLogic <;> by_cases h4:b.fLogic < a.fLogic <;> simp [h1,h2,h3,h4] <;> omega
abbrev sv (x:TStamp):Value:=.agg #[.int .i64 x.fWall,.int .i64 x.fLogic]
theorem DG {x y:TStamp}(hk:K (.int .i64 (MA x y)) I L):CT ω 158 #[sv x,sv y] K I L:=by
 refine AIK ?_;unfold sh158;repeat' (first|(with_reducible first|refine AK ?_|refine AX ?_|refine AY ?_|refine keepA ?_|refine AM (fun _=>?_))|((with_reducible refine call ?_);refine (MP ?_))|(with_reducible refine rdb ?_)|((with_reducible first|refine st1 ?_ ?_|refine rdB ?_ ?_);rfl)|(with_reducible refine AV ?_)|((with_reducible refine Ae ?_ ?_);rfl)|((with_reducible refine stB ?_ ?_ ?_ ?_);rfl;rfl;exact AE rfl)|((with_reducible first|refine rdP _ rfl ?_ ?_|refine Af _ rfl ?_ ?_);rfl)|((with_reducible refine stP _ rfl ?_ ?_ ?_ ?_);rfl;rfl;rfl)|(with_reducible first|refine AO (sh158.eq_1 ..) ?_|refine And.intro ?_ ?_)|(simp only [SSg,Int.reduceBEq,Int.reduceBNe,Int.reduceLT,Int.reduceLE,beq_self_eq_true,bne_self_eq_false])|(with_reducible first|refine AH (fun _=>?_) (fun _=>?_)|refine AD (fun _=>?_) (fun _=>?_))|(simp only [SSd,Nat.reduceAdd]))
 refine ⟨#[.int .i64 (MN x.fWall y.fWall),.int .i64 (MN x.fLogic y.fLogic)],by kernel_rfl,fun bb=>?_⟩;refine Gh.done (call (AFB (fun j u hu=>Cell.own (List.mem_cons_self ..) (by simpa using hu)) ?_));exact Gh.to L (Gh.done hk)
theorem DF {x y:TStamp}(hk:K (.int .i64 (MA x y)) I L):CT ω 42 #[sv x,sv y] K I L:=by
 refine AKS ?_;unfold sh42;repeat' (first|(with_reducible first|refine AK ?_|refine AX ?_|refine AY ?_|refine keepA ?_|refine AM (fun _=>?_)|refine rdb ?_)|((with_reducible first|refine st1 ?_ ?_|refine rdB ?_ ?_);rfl)|(with_reducible refine AV ?_)|((with_reducible refine Ae ?_ ?_);rfl)|((with_reducible refine stB ?_ ?_ ?_ ?_);rfl;rfl;exact AE rfl)|((with_reducible first|refine rdP _ rfl ?_ ?_|refine Af _ rfl ?_ ?_);rfl)|((with_reducible refine stP _ rfl ?_ ?_ ?_ ?_);rfl;rfl;rfl)|(with_reducible first|refine AO (sh42.eq_1 ..) ?_|refine And.intro ?_ ?_)|(simp only [SSg,Int.reduceBEq,Int.reduceBNe,Int.reduceLT,Int.reduceLE,beq_self_eq_true,bne_self_eq_false])|(with_reducible first|refine AH (fun _=>?_) (fun _=>?_)|refine AD (fun _=>?_) (fun _=>?_))|(simp only [SSd,Nat.reduceAdd]))
 all_goals (refine Gh.to L (Gh.done (UB hk ?_));unfold MA MN;simp_all <;> omega)
theorem BE {x y:TStamp}(hk:K (.bool (bhd x y)) I L):CT ω 213 #[sv x,sv y] K I L:=by
 rw [←Kb] at hk;refine AHj ?_;unfold sh213;repeat' (first|(with_reducible first|refine AK ?_|refine AX ?_|refine AY ?_|refine keepA ?_|refine AM (fun _=>?_))|((with_reducible refine call ?_);refine (DG ?_))|(with_reducible refine rdb ?_)|((with_reducible first|refine st1 ?_ ?_|refine rdB ?_ ?_);rfl)|(with_reducible refine AV ?_)|((with_reducible refine Ae ?_ ?_);rfl)|((with_reducible refine stB ?_ ?_ ?_ ?_);rfl;rfl;exact AE rfl)|((with_reducible first|refine rdP _ rfl ?_ ?_|refine Af _ rfl ?_ ?_);rfl)|((with_reducible refine stP _ rfl ?_ ?_ ?_ ?_);rfl;rfl;rfl)|(with_reducible first|refine AO (sh213.eq_1 ..) ?_|refine And.intro ?_ ?_)|(simp only [SSg,Int.reduceBEq,Int.reduceBNe,Int.reduceLT,Int.reduceLE,beq_self_eq_true,bne_self_eq_false])|(with_reducible first|refine AH (fun _=>?_) (fun _=>?_)|refine AD (fun _=>?_) (fun _=>?_))|(simp only [SSd,Nat.reduceAdd]))
 exact Gh.to L (Gh.done hk)
theorem Ai {x y:TStamp}(hk:K (.bool (bhd x y)) I L):CT ω 109 #[sv x,sv y] K I L:=by
 rw [←Kb] at hk;refine AIs ?_;unfold sh109;repeat' (first|(with_reducible first|refine AK ?_|refine AX ?_|refine AY ?_|refine keepA ?_|refine AM (fun _=>?_))|((with_reducible refine call ?_);refine (DF ?_))|(with_reducible refine rdb ?_)|((with_reducible first|refine st1 ?_ ?_|refine rdB ?_ ?_);rfl)|(with_reducible refine AV ?_)|((with_reducible refine Ae ?_ ?_);rfl)|((with_reducible refine stB ?_ ?_ ?_ ?_);rfl;rfl;exact AE rfl)|((with_reducible first|refine rdP _ rfl ?_ ?_|refine Af _ rfl ?_ ?_);rfl)|((with_reducible refine stP _ rfl ?_ ?_ ?_ ?_);rfl;rfl;rfl)|(with_reducible first|refine AO (sh109.eq_1 ..) ?_|refine And.intro ?_ ?_)|(simp only [SSg,Int.reduceBEq,Int.reduceBNe,Int.reduceLT,Int.reduceLE,beq_self_eq_true,bne_self_eq_false])|(with_reducible first|refine AH (fun _=>?_) (fun _=>?_)|refine AD (fun _=>?_) (fun _=>?_))|(simp only [SSd,Nat.reduceAdd]))
 exact Gh.to L (Gh.done hk)
def Ix (n:Int):Bool:=decide (0≤n∧n≤9007199254740991)
def AU (s:TStamp):Bool:=Ix s.fWall&&decide (0≤s.fLogic∧s.fLogic≤65535)
theorem UX {a:Int}(hk:K (.bool (Ix a)) I L):CT ω 146 #[.int .i64 a] K I L:=by
 refine AIW ?_;unfold sh146;repeat' (first|(with_reducible first|refine AK ?_|refine AX ?_|refine AY ?_|refine keepA ?_|refine AM (fun _=>?_)|refine rdb ?_)|((with_reducible first|refine st1 ?_ ?_|refine rdB ?_ ?_);rfl)|(with_reducible refine AV ?_)|((with_reducible refine Ae ?_ ?_);rfl)|((with_reducible refine stB ?_ ?_ ?_ ?_);rfl;rfl;exact AE rfl)|((with_reducible first|refine rdP _ rfl ?_ ?_|refine Af _ rfl ?_ ?_);rfl)|((with_reducible refine stP _ rfl ?_ ?_ ?_ ?_);rfl;rfl;rfl)|(with_reducible first|refine AO (sh146.eq_1 ..) ?_|refine And.intro ?_ ?_)|(simp only [SSg,Int.reduceBEq,Int.reduceBNe,Int.reduceLT,Int.reduceLE,beq_self_eq_true,bne_self_eq_false])|(with_reducible first|refine AH (fun _=>?_) (fun _=>?_)|refine AD (fun _=>?_) (fun _=>?_))|(simp only [SSd,Nat.reduceAdd]))
 all_goals (refine Gh.done (Bz hk ?_);simp_all [Ix] <;> omega)
theorem Qy {a:Int}(hk:K (.bool (Ix a)) I L):CT ω 122 #[.int .i64 a] K I L:=by
 refine AIf ?_;unfold sh122;repeat' (first|(with_reducible first|refine AK ?_|refine AX ?_|refine AY ?_|refine keepA ?_|refine AM (fun _=>?_)|refine rdb ?_)|((with_reducible first|refine st1 ?_ ?_|refine rdB ?_ ?_);rfl)|(with_reducible refine AV ?_)|((with_reducible refine Ae ?_ ?_);rfl)|((with_reducible refine stB ?_ ?_ ?_ ?_);rfl;rfl;exact AE rfl)|((with_reducible first|refine rdP _ rfl ?_ ?_|refine Af _ rfl ?_ ?_);rfl)|((with_reducible refine stP _ rfl ?_ ?_ ?_ ?_);rfl;rfl;rfl)|(with_reducible first|refine AO (sh122.eq_1 ..) ?_|refine And.intro ?_ ?_)|(simp only [SSg,Int.reduceBEq,Int.reduceBNe,Int.reduceLT,Int.reduceLE,beq_self_eq_true,bne_self_eq_false])|(with_reducible first|refine AH (fun _=>?_) (fun _=>?_)|refine AD (fun _=>?_) (fun _=>?_))|(simp only [SSd,Nat.reduceAdd]))
 all_goals (refine Gh.done (Bz hk ?_);simp_all [Ix] <;> omega)
theorem BZ {x:TStamp}(hk:K (.bool (AU x)) I L):CT ω 89 #[.agg #[.int .i64 x.fWall,.int .i64 x.fLogic]] K I L:=by
 refine AJt ?_;unfold sh89;repeat' (first|(with_reducible first|refine AK ?_|refine AX ?_|refine AY ?_|refine keepA ?_|refine AM (fun _=>?_))|((with_reducible refine call ?_);refine (UX ?_))|(with_reducible refine rdb ?_)|((with_reducible first|refine st1 ?_ ?_|refine rdB ?_ ?_);rfl)|(with_reducible refine AV ?_)|((with_reducible refine Ae ?_ ?_);rfl)|((with_reducible refine stB ?_ ?_ ?_ ?_);rfl;rfl;exact AE rfl)|((with_reducible first|refine rdP _ rfl ?_ ?_|refine Af _ rfl ?_ ?_);rfl)|((with_reducible refine stP _ rfl ?_ ?_ ?_ ?_);rfl;rfl;rfl)|(with_reducible first|refine AO (sh89.eq_1 ..) ?_|refine And.intro ?_ ?_)|(simp only [SSg,Int.reduceBEq,Int.reduceBNe,Int.reduceLT,Int.reduceLE,beq_self_eq_true,bne_self_eq_false])|(with_reducible first|refine AH (fun _=>?_) (fun _=>?_)|refine AD (fun _=>?_) (fun _=>?_))|(simp only [SSd,Nat.reduceAdd]))
 all_goals (refine Gh.to L (Gh.done (Bz hk ?_));simp_all [AU] <;> omega)
theorem Bl {x:TStamp}(hk:K (.bool (AU x)) I L):CT ω 66 #[.agg #[.int .i64 x.fWall,.int .i64 x.fLogic]] K I L:=by
 refine AKB ?_;unfold sh66;repeat' (first|(with_reducible first|refine AK ?_|refine AX ?_|refine AY ?_|refine keepA ?_|refine AM (fun _=>?_))|((with_reducible refine call ?_);refine (Qy ?_))|(with_reducible refine rdb ?_)|((with_reducible first|refine st1 ?_ ?_|refine rdB ?_ ?_);rfl)|(with_reducible refine AV ?_)|((with_reducible refine Ae ?_ ?_);rfl)|((with_reducible refine stB ?_ ?_ ?_ ?_);rfl;rfl;exact AE rfl)|((with_reducible first|refine rdP _ rfl ?_ ?_|refine Af _ rfl ?_ ?_);rfl)|((with_reducible refine stP _ rfl ?_ ?_ ?_ ?_);rfl;rfl;rfl)|(with_reducible first|refine AO (sh66.eq_1 ..) ?_|refine And.intro ?_ ?_)|(simp only [SSg,Int.reduceBEq,Int.reduceBNe,Int.reduceLT,Int.reduceLE,beq_self_eq_true,bne_self_eq_false])|(with_reducible first|refine AH (fun _=>?_) (fun _=>?_)|refine AD (fun _=>?_) (fun _=>?_))|(simp only [SSd,Nat.reduceAdd]))
 all_goals (refine Gh.to L (Gh.done (Bz hk ?_));simp_all [AU] <;> omega)
def Bj (n:Int):Bool:=decide (1≤n∧n≤9007199254740991)
theorem DN {a:Int}(hk:K (.bool (Bj a)) I L):CT ω 217 #[.int .i64 a] K I L:=by
 refine AHf ?_;unfold sh217;repeat' (first|(with_reducible first|refine AK ?_|refine AX ?_|refine AY ?_|refine keepA ?_|refine AM (fun _=>?_)|refine rdb ?_)|((with_reducible first|refine st1 ?_ ?_|refine rdB ?_ ?_);rfl)|(with_reducible refine AV ?_)|((with_reducible refine Ae ?_ ?_);rfl)|((with_reducible refine stB ?_ ?_ ?_ ?_);rfl;rfl;exact AE rfl)|((with_reducible first|refine rdP _ rfl ?_ ?_|refine Af _ rfl ?_ ?_);rfl)|((with_reducible refine stP _ rfl ?_ ?_ ?_ ?_);rfl;rfl;rfl)|(with_reducible first|refine AO (sh217.eq_1 ..) ?_|refine And.intro ?_ ?_)|(simp only [SSg,Int.reduceBEq,Int.reduceBNe,Int.reduceLT,Int.reduceLE,beq_self_eq_true,bne_self_eq_false])|(with_reducible first|refine AH (fun _=>?_) (fun _=>?_)|refine AD (fun _=>?_) (fun _=>?_))|(simp only [SSd,Nat.reduceAdd]))
 all_goals (refine Gh.done (Bz hk ?_);simp_all [Bj] <;> omega)
theorem Dy {a:Int}(hk:K (.bool (Bj a)) I L):CT ω 123 #[.int .i64 a] K I L:=by
 refine AIe ?_;unfold sh123;repeat' (first|(with_reducible first|refine AK ?_|refine AX ?_|refine AY ?_|refine keepA ?_|refine AM (fun _=>?_)|refine rdb ?_)|((with_reducible first|refine st1 ?_ ?_|refine rdB ?_ ?_);rfl)|(with_reducible refine AV ?_)|((with_reducible refine Ae ?_ ?_);rfl)|((with_reducible refine stB ?_ ?_ ?_ ?_);rfl;rfl;exact AE rfl)|((with_reducible first|refine rdP _ rfl ?_ ?_|refine Af _ rfl ?_ ?_);rfl)|((with_reducible refine stP _ rfl ?_ ?_ ?_ ?_);rfl;rfl;rfl)|(with_reducible first|refine AO (sh123.eq_1 ..) ?_|refine And.intro ?_ ?_)|(simp only [SSg,Int.reduceBEq,Int.reduceBNe,Int.reduceLT,Int.reduceLE,beq_self_eq_true,bne_self_eq_false])|(with_reducible first|refine AH (fun _=>?_) (fun _=>?_)|refine AD (fun _=>?_) (fun _=>?_))|(simp only [SSd,Nat.reduceAdd]))
 all_goals (refine Gh.done (Bz hk ?_);simp_all [Bj] <;> omega)
def Ak (n:Int):Bool:=n==0||Bj n
theorem Fe {a:Int}(hk:K (.bool (Ak a)) I L):CT ω 108 #[.int .i64 a] K I L:=by
 refine AIt ?_;unfold sh108;repeat' (first|(with_reducible first|refine AK ?_|refine AX ?_|refine AY ?_|refine keepA ?_|refine AM (fun _=>?_))|((with_reducible refine call ?_);refine (Dy ?_))|(with_reducible refine rdb ?_)|((with_reducible first|refine st1 ?_ ?_|refine rdB ?_ ?_);rfl)|(with_reducible refine AV ?_)|((with_reducible refine Ae ?_ ?_);rfl)|((with_reducible refine stB ?_ ?_ ?_ ?_);rfl;rfl;exact AE rfl)|((with_reducible first|refine rdP _ rfl ?_ ?_|refine Af _ rfl ?_ ?_);rfl)|((with_reducible refine stP _ rfl ?_ ?_ ?_ ?_);rfl;rfl;rfl)|(with_reducible first|refine AO (sh108.eq_1 ..) ?_|refine And.intro ?_ ?_)|(simp only [SSg,Int.reduceBEq,Int.reduceBNe,Int.reduceLT,Int.reduceLE,beq_self_eq_true,bne_self_eq_false])|(with_reducible first|refine AH (fun _=>?_) (fun _=>?_)|refine AD (fun _=>?_) (fun _=>?_))|(simp only [SSd,Nat.reduceAdd]))
 all_goals (refine Gh.done (Bz hk ?_);simp_all [Ak] <;> omega)
theorem Lr {x:TStamp}{a:Int}(hk:K (.bool (AU x&&Ak a)) I L):CT ω 212 #[sv x,.int .i64 a] K I L:=by
 refine AHk ?_;unfold sh212;repeat' (first|(with_reducible first|refine AK ?_|refine AX ?_|refine AY ?_|refine keepA ?_|refine AM (fun _=>?_))|((with_reducible refine call ?_);refine (DN ?_))|((with_reducible refine call ?_);refine (BZ ?_))|(with_reducible refine rdb ?_)|((with_reducible first|refine st1 ?_ ?_|refine rdB ?_ ?_);rfl)|(with_reducible refine AV ?_)|((with_reducible refine Ae ?_ ?_);rfl)|((with_reducible refine stB ?_ ?_ ?_ ?_);rfl;rfl;exact AE rfl)|((with_reducible first|refine rdP _ rfl ?_ ?_|refine Af _ rfl ?_ ?_);rfl)|((with_reducible refine stP _ rfl ?_ ?_ ?_ ?_);rfl;rfl;rfl)|(with_reducible first|refine AO (sh212.eq_1 ..) ?_|refine And.intro ?_ ?_)|(simp only [SSg,Int.reduceBEq,Int.reduceBNe,Int.reduceLT,Int.reduceLE,beq_self_eq_true,bne_self_eq_false])|(with_reducible first|refine AH (fun _=>?_) (fun _=>?_)|refine AD (fun _=>?_) (fun _=>?_))|(simp only [SSd,Nat.reduceAdd]))
 all_goals (refine Gh.to L (Gh.done (Bz hk ?_));simp_all [Ak] <;> omega)
def An (l:List UInt8):Bool:=decide (1≤l.length∧l.length≤110)
theorem Cm {v:Value}{l:List UInt8}(h:Bytes I v l)(hk:K (.bool (An l)) I L):CT ω 143 #[v] K I L:=by
 obtain ⟨a,c,rfl⟩:=Bytes.form h;refine AIZ ?_;unfold sh143;repeat' (first|(with_reducible first|refine AK ?_|refine AX ?_|refine AY ?_|refine keepA ?_|refine AM (fun _=>?_)|refine rdb ?_)|((with_reducible first|refine st1 ?_ ?_|refine rdB ?_ ?_);rfl)|(with_reducible refine AV ?_)|((with_reducible refine Ae ?_ ?_);rfl)|((with_reducible refine stB ?_ ?_ ?_ ?_);rfl;rfl;exact AE rfl)|((with_reducible first|refine rdP _ rfl ?_ ?_|refine Af _ rfl ?_ ?_);rfl)|((with_reducible refine stP _ rfl ?_ ?_ ?_ ?_);rfl;rfl;rfl)|(with_reducible first|refine AO (sh143.eq_1 ..) ?_|refine And.intro ?_ ?_)|(simp only [SSg,Int.reduceBEq,Int.reduceBNe,Int.reduceLT,Int.reduceLE,beq_self_eq_true,bne_self_eq_false])|(with_reducible first|refine AH (fun _=>?_) (fun _=>?_)|refine AD (fun _=>?_) (fun _=>?_))|(simp only [SSd,Nat.reduceAdd]))
 all_goals (refine Gh.done (Bz hk ?_);rw [Bool.eq_iff_iff];simp only [An,ne_eq,decide_eq_true_eq,decide_eq_false_iff_not,Bool.false_eq_true,iff_false] at *; omega)
theorem Dz {v:Value}{l:List UInt8}(h:Bytes I v l)(hk:K (.bool (An l)) I L):CT ω 68 #[v] K I L:=by
 obtain ⟨a,c,rfl⟩:=Bytes.form h;refine AJz ?_;unfold sh68;repeat' (first|(with_reducible first|refine AK ?_|refine AX ?_|refine AY ?_|refine keepA ?_|refine AM (fun _=>?_)|refine rdb ?_)|((with_reducible first|refine st1 ?_ ?_|refine rdB ?_ ?_);rfl)|(with_reducible refine AV ?_)|((with_reducible refine Ae ?_ ?_);rfl)|((with_reducible refine stB ?_ ?_ ?_ ?_);rfl;rfl;exact AE rfl)|((with_reducible first|refine rdP _ rfl ?_ ?_|refine Af _ rfl ?_ ?_);rfl)|((with_reducible refine stP _ rfl ?_ ?_ ?_ ?_);rfl;rfl;rfl)|(with_reducible first|refine AO (sh68.eq_1 ..) ?_|refine And.intro ?_ ?_)|(simp only [SSg,Int.reduceBEq,Int.reduceBNe,Int.reduceLT,Int.reduceLE,beq_self_eq_true,bne_self_eq_false])|(with_reducible first|refine AH (fun _=>?_) (fun _=>?_)|refine AD (fun _=>?_) (fun _=>?_))|(simp only [SSd,Nat.reduceAdd]))
 all_goals (refine Gh.done (Bz hk ?_);rw [Bool.eq_iff_iff];simp only [An,ne_eq,decide_eq_true_eq,decide_eq_false_iff_not,Bool.false_eq_true,iff_false] at *; omega)
def Bs (s:TStamp):TStamp×Int:=if AU s=false then (⟨0,0⟩,80) else if s.fLogic < 65535 then (⟨s.fWall,s.fLogic+1⟩,0) else if s.fWall=9007199254740991 then (⟨0,0⟩,82) else (⟨s.fWall+1,0⟩,0)
theorem JK {p q:TStamp×Int}(h:K (.tuple #[sv p.1,.int .i64 p.2]) I L)(e:p=q):K (.tuple #[sv q.1,.int .i64 q.2]) I L:=e ▸ h
theorem DM {x:TStamp}(h:AU x=true):(0≤x.fWall∧x.fWall≤9007199254740991)∧0≤x.fLogic∧x.fLogic≤65535:=by
 simpa [AU,Ix] using h
theorem LT {x:TStamp}(hk:K (.tuple #[sv (Bs x).1,.int .i64 (Bs x).2]) I L):CT ω 216 #[sv x] K I L:=by
 refine AHg ?_;unfold sh216;repeat' (first|(with_reducible first|refine AK ?_|refine AX ?_|refine AY ?_|refine keepA ?_|refine AM (fun _=>?_))|((with_reducible refine call ?_);refine (BZ ?_))|(with_reducible refine rdb ?_)|((with_reducible first|refine st1 ?_ ?_|refine rdB ?_ ?_);rfl)|(with_reducible refine AV ?_)|((with_reducible refine Ae ?_ ?_);rfl)|((with_reducible refine stB ?_ ?_ ?_ ?_);rfl;rfl;exact AE rfl)|((with_reducible first|refine rdP _ rfl ?_ ?_|refine Af _ rfl ?_ ?_);rfl)|((with_reducible refine stP _ rfl ?_ ?_ ?_ ?_);rfl;rfl;rfl)|(with_reducible first|refine AO (sh216.eq_1 ..) ?_|refine And.intro ?_ ?_)|(simp only [SSg,Int.reduceBEq,Int.reduceBNe,Int.reduceLT,Int.reduceLE,beq_self_eq_true,bne_self_eq_false])|(with_reducible first|refine AH (fun _=>?_) (fun _=>?_)|refine AD (fun _=>?_) (fun _=>?_))|(simp only [SSd,Nat.reduceAdd]))
 all_goals (refine Gh.to L (Gh.done ?_))
 ·exact JK (q:=(⟨0,0⟩,80)) hk (by simp_all [Bs])
 ·rename_i e1 e2
  have hr:=DM (x:=x) (by simpa using e1);exact JK (q:=(⟨0,0⟩,82)) hk (by simp_all [Bs])
 ·rename_i e1 e2 e3
  have hr:=DM (x:=x) (by simpa using e1);rw [wrap_i64 _ (by omega)];simp at e1 e2 e3;exact JK (q:=(⟨x.fWall+1,0⟩,0)) hk (by
   have:x.fWall≠9007199254740991:=fun e=>e2 e e3;simp [Bs,e1,e3,this])
 ·rename_i e1 e2 e3
  have hr:=DM (x:=x) (by simpa using e1);rw [wrap_i64 _ (by omega)];simp at e1 e2 e3;exact JK (q:=(⟨x.fWall,x.fLogic+1⟩,0)) hk (by
   have:x.fLogic < 65535:=by omega
   simp [Bs,e1,this])
theorem Kj {x:TStamp}(hk:K (.tuple #[sv (Bs x).1,.int .i64 (Bs x).2]) I L):CT ω 226 #[sv x] K I L:=by
 refine AHX ?_;unfold sh226;repeat' (first|(with_reducible first|refine AK ?_|refine AX ?_|refine AY ?_|refine keepA ?_|refine AM (fun _=>?_))|((with_reducible refine call ?_);refine (Bl ?_))|(with_reducible refine rdb ?_)|((with_reducible first|refine st1 ?_ ?_|refine rdB ?_ ?_);rfl)|(with_reducible refine AV ?_)|((with_reducible refine Ae ?_ ?_);rfl)|((with_reducible refine stB ?_ ?_ ?_ ?_);rfl;rfl;exact AE rfl)|((with_reducible first|refine rdP _ rfl ?_ ?_|refine Af _ rfl ?_ ?_);rfl)|((with_reducible refine stP _ rfl ?_ ?_ ?_ ?_);rfl;rfl;rfl)|(with_reducible first|refine AO (sh226.eq_1 ..) ?_|refine And.intro ?_ ?_)|(simp only [SSg,Int.reduceBEq,Int.reduceBNe,Int.reduceLT,Int.reduceLE,beq_self_eq_true,bne_self_eq_false])|(with_reducible first|refine AH (fun _=>?_) (fun _=>?_)|refine AD (fun _=>?_) (fun _=>?_))|(simp only [SSd,Nat.reduceAdd]))
 all_goals (refine Gh.to L (Gh.done ?_))
 ·exact JK (q:=(⟨0,0⟩,80)) hk (by simp_all [Bs])
 ·rename_i e1 e2
  have hr:=DM (x:=x) (by simpa using e1);rw [wrap_i64 _ (by omega)];simp at e1 e2;exact JK (q:=(⟨x.fWall,x.fLogic+1⟩,0)) hk (by simp [Bs,e1,e2])
 ·rename_i e1 e2 e3
  simp at e1 e2 e3;exact JK (q:=(⟨0,0⟩,82)) hk (by
   have:¬(x.fLogic < 65535):=by omega
   simp [Bs,e1,this,e3])
 ·rename_i e1 e2 e3
  have hr:=DM (x:=x) (by simpa using e1);rw [wrap_i64 _ (by omega)];simp at e1 e2 e3;exact JK (q:=(⟨x.fWall+1,0⟩,0)) hk (by
   have:¬(x.fLogic < 65535):=by omega
   simp [Bs,e1,this,e3])
def inB (p:TSpan)(k:List UInt8):Bool:= !(blt k p.fFrom)&&(p.fTo.length==0||blt k p.fTo)
theorem Ei {p:TSpan}{c:List Value}{kv:Value}{k:List UInt8}(hp:TSpanV I p c)(h:Bytes I kv k)(hk:K (.bool (inB p k)) I L):CT ω 46 #[.agg c.toArray,kv] K I L:=by
 obtain ⟨v0,v1,rfl,h0,h1⟩:=hp;refine AKQ ?_;unfold sh46;repeat' (first|(with_reducible first|refine AK ?_|refine AX ?_|refine AY ?_|refine keepA ?_|refine AM (fun _=>?_))|(refine EG h (Ext.refl _) ?_)|(refine EG h0 (Ext.refl _) ?_)|(refine EG h1 (Ext.refl _) ?_)|(with_reducible refine rdb ?_)|((with_reducible first|refine st1 ?_ ?_|refine rdB ?_ ?_);rfl)|(with_reducible refine AV ?_)|((with_reducible refine Ae ?_ ?_);rfl)|((with_reducible refine stB ?_ ?_ ?_ ?_);rfl;rfl;exact AE rfl)|((with_reducible first|refine rdP _ rfl ?_ ?_|refine Af _ rfl ?_ ?_);rfl)|((with_reducible refine stP _ rfl ?_ ?_ ?_ ?_);rfl;rfl;rfl)|(with_reducible first|refine AO (sh46.eq_1 ..) ?_|refine And.intro ?_ ?_)|(simp only [SSg,Int.reduceBEq,Int.reduceBNe,Int.reduceLT,Int.reduceLE,beq_self_eq_true,bne_self_eq_false])|(with_reducible first|refine AH (fun _=>?_) (fun _=>?_)|refine AD (fun _=>?_) (fun _=>?_))|(simp only [SSd,Nat.reduceAdd,Bytes.len h1]))
 all_goals (refine Gh.to L (Gh.done (Bz hk ?_));simp_all [inB])
end
section
variable {ω:Om}{I:Imm}{L:LH}{K:Value→M}
abbrev AFb (I:Imm)(L:LH)(v:Value)(l:List (List UInt8)):Prop:=RL StrV 1 I L v l
abbrev BW (a:List UInt8):Value:=.string ⟨a.toArray⟩
theorem Uu {a:List UInt8}(hk:K (.bool false) I L):CT ω 211 #[BW a] K I L:=by
 refine AHl ?_;unfold Xi;simp only [SSd,Nat.reduceAdd,sNe,beq_self_eq_true,Bool.not_true];exact Gh.done hk
theorem Vo {a:List UInt8}(hk:K (.bool false) I L):CT ω 244 #[BW a] K I L:=by
 refine AHO ?_;unfold Wk;simp only [SSd,Nat.reduceAdd,sNe,beq_self_eq_true,Bool.not_true];exact Gh.done hk
theorem VN {a b:List UInt8}(hk:K (.bool (blt a b)) I L):CT ω 210 #[BW a,BW b] K I L:=by
 refine AHm ?_;unfold sh210;repeat' (first|(with_reducible first|refine AK ?_|refine AX ?_|refine AY ?_|refine keepA ?_|refine AM (fun _=>?_))|((with_reducible refine call ?_);refine (Vo ?_))|(with_reducible refine rdb ?_)|((with_reducible first|refine st1 ?_ ?_|refine rdB ?_ ?_);rfl)|(with_reducible refine AV ?_)|((with_reducible refine Ae ?_ ?_);rfl)|((with_reducible refine stB ?_ ?_ ?_ ?_);rfl;rfl;exact AE rfl)|((with_reducible first|refine rdP _ rfl ?_ ?_|refine Af _ rfl ?_ ?_);rfl)|((with_reducible refine stP _ rfl ?_ ?_ ?_ ?_);rfl;rfl;rfl)|(with_reducible first|refine AO (sh210.eq_1 ..) ?_|refine And.intro ?_ ?_)|(simp only [SSg,Int.reduceBEq,Int.reduceBNe,Int.reduceLT,Int.reduceLE,beq_self_eq_true,bne_self_eq_false])|(with_reducible first|refine AH (fun _=>?_) (fun _=>?_)|refine AD (fun _=>?_) (fun _=>?_))|(simp only [SSd,Nat.reduceAdd]))
 exact Gh.done hk
theorem wrap_u64 (n:Int)(h0:0≤n)(h1:n < 18446744073709551616):IntKind.u64.wrap n=n:=by
 unfold IntKind.wrap;simp [IntKind.bits,IntKind.signed];omega
theorem AGl (i j:Nat)(hb:i+j < 9223372036854775808):AC .shr (.int .u64 (IntKind.u64.wrap (IntKind.i64.wrap ((i:Int)+j)))) (.int .u64 1)=some (.int .u64 ((i+j) / 2:Nat)):=by
 have h:=IK (a:=(i:Int)+j) (c:=1) .u64 .u64 (by decide);rw [wrap_i64 _ (by omega),wrap_u64 _ (by omega) (by omega),h];congr 2
 show ((i:Int)+j).fdiv (2 ^ 1)=_;rw [Int.fdiv_eq_ediv_of_nonneg _ (by decide)];omega
def SrtK (l:List (List UInt8)):Prop:=l.Pairwise fun a b=>blt a b=true
theorem SrtK.get {l:List (List UInt8)}(h:SrtK l){p q:Nat}(h1:p < q)(h2:q < l.length):blt (EY l (p:Int)) (EY l (q:Int))=true:=by
 rw [Ab (by omega),Ab h2];exact List.pairwise_iff_getElem.1 h p q (by omega) h2 h1
theorem EZ {v:Value}{l:List (List UInt8)}{k:List UInt8}(h:AFb I L v l)(hlen:l.length < 4611686018427387904)(hs:SrtK l)
  (hk:∀i:Nat,i≤l.length→(∀x∈l.take i,blt x k=true)→(∀x∈l.drop i,blt x k=false)→K (.tuple #[.int .i64 i,.bool (decide (l[i]? =some k))]) I L):
  CT ω 144 #[v,BW k] K I L:=by
 refine AIY ?_;unfold ZD;simp only [RL.len h,SSd,Nat.reduceAdd];refine loop (fun m s I' L'=>I'=I∧L'=L∧∃i j:Nat,i+m=j∧j≤l.length∧s=(.int .i64 i,.int .i64 j,())∧(∀q:Nat,q < i→blt (EY l (q:Int)) k=true)∧(∀q:Nat,j≤q→q < l.length→blt (EY l (q:Int)) k=false)) l.length ⟨rfl,rfl,0,l.length,by omega,Nat.le_refl _,rfl,by omega,by omega⟩ ?_;rintro m s I' L' ⟨rfl,rfl,i,j,hij,hjl,rfl,hA,hB⟩;unfold TS;try simp only [SSd,Nat.reduceAdd]
 refine AD (fun hlt=>?_) (fun hlt=>?_)
 ·simp at hlt;simp only [AGl i j (by omega),SSd,Nat.reduceAdd];have hm1:i≤(i+j) / 2:=by omega
  have hm2:(i+j) / 2 < j:=by omega
  generalize (i+j) / 2=p at *;simp only [wrap_i64 (p:Int) (by omega),SSd,Nat.reduceAdd];obtain ⟨b,off,c,hix,hl,hc,hcc⟩:=RL.ix h (i:=p) (by omega) (by omega);obtain rfl:c=_:=hc;simp only [hix,SSd,Nat.reduceAdd];refine rd1 (hcc I' L' (Ext.refl _) (fun _ h=>h) 0 _ rfl) ?_;refine call (VN ?_);refine AD (fun e=>?_) (fun e=>?_)
  ·simp only [SSd,Nat.reduceAdd,wrap_i64 ((p:Int)+1) (by omega)];refine Gh.done ⟨j - (p+1),by omega,rfl,rfl,p+1,j,by omega,hjl,by simp,fun q hq=>?_,hB⟩;by_cases hq':q=p
   ·rw [hq'];exact e
   ·exact Ct (hs.get (p:=q) (q:=p) (by omega) (by omega)) e
  ·refine Gh.done ⟨p - i,by omega,rfl,rfl,i,p,by omega,by omega,rfl,hA,fun q hq hq2=>?_⟩;cases hb:blt (EY l (q:Int)) k with
   |false=>rfl
   |true=>
    by_cases hq':q=p
    ·rw [hq'] at hb;exact absurd hb (by simpa using e)
    ·exact absurd (Ct (hs.get (p:=p) (q:=q) (by omega) hq2) hb) (by simpa using e)
 ·simp at hlt;have hij':i=j:=by omega
  subst hij';have hA':∀x∈l.take i,blt x k=true:=by
   intro x hx;obtain ⟨q,hq,rfl⟩:=List.getElem_of_mem hx;have hq':q < i:=by simp at hq;omega
   have:=hA q hq';rw [Ab (by omega)] at this;simpa using this
  have hB':∀x∈l.drop i,blt x k=false:=by
   intro x hx;obtain ⟨q,hq,rfl⟩:=List.getElem_of_mem hx;have hq':i+q < l.length:=by simp at hq;omega
   have:=hB (i+q) (by omega) hq';rw [Ab hq'] at this;simpa using this
  have fin:=hk i hjl hA' hB';unfold TR;try simp only [SSd,Nat.reduceAdd]
  refine AH (fun e=>?_) (fun e=>?_)
  ·simp at e;obtain ⟨b,off,c,hix,hl,hc,hcc⟩:=RL.ix h (i:=i) (by omega) (by omega);obtain rfl:c=_:=hc;have hge:l[i]? =some (EY l (i:Int)):=by rw [List.getElem?_eq_getElem e,Ab e]
   rw [hge] at fin;simp only [hix,SSd,Nat.reduceAdd];refine rd1 (hcc I' L' (Ext.refl _) (fun _ h=>h) 0 _ rfl) ?_;simp only [sEq,SSd,Nat.reduceAdd];refine AH (fun e2=>?_) (fun e2=>?_)
   ·refine rd1 (hcc I' L' (Ext.refl _) (fun _ h=>h) 0 _ rfl) ?_;refine call (Uu ?_);try simp only [SSd,Nat.reduceAdd]
    have hd:decide (some (EY l (i:Int))=some k)=false:=by simpa using e2
    rw [hd] at fin;exact Gh.done fin
   ·have hd:decide (some (EY l (i:Int))=some k)=true:=by simpa using e2
    rw [hd] at fin;exact Gh.done fin
  ·simp at e;rw [List.getElem?_eq_none e] at fin;exact Gh.done fin
def strs (l:List (List UInt8)):List Value:=l.map BW
theorem KS (l:List (List UInt8)):(strs l).length=l.length:=by simp [strs]
theorem IV:∀(l:List (List UInt8)),Recs (StrV I) 1 l (strs l)
 |[]=>rfl
 |x::l=>⟨rfl,rfl,IV l⟩
theorem Hg (l:List (List UInt8)):∀u∈strs l,u.oneCell'=true:=by
 intro u hu;obtain ⟨x,_,rfl⟩:=List.mem_map.1 hu;rfl
abbrev StrO (X:LH)(v:Value)(l:List (List UInt8)):Prop:=SlO 9 1 X v (strs l) l.length
theorem StrO.rl {X L:LH}{v:Value}{l:List (List UInt8)}(h:StrO X v l)(hX:∀x∈X,x∈L):AFb I L v l:=by
 have hn:=h.news (I:=I) hX;obtain ⟨_,hh⟩:=h;rcases hh with ⟨_,h0,a,rfl⟩|⟨b,cap,cs,_,rfl,_,hle,_⟩
 ·refine ⟨a,0,_,?_,by omega,hn,IV l⟩;rw [h0]
 ·exact ⟨_,cap,_,rfl,hle,hn,IV l⟩
theorem RL.news' {α:Type}{R:Imm→α→List Value→Prop}{n:Nat}{v:Value}{xs:List α}(h:RL R n I L v xs):∃cells,News n v I L xs.length cells∧Recs (R I) n xs cells:=by
 obtain ⟨a,cap,cells,rfl,hle,hn,hr⟩:=h;exact ⟨cells,hn,hr⟩
theorem Hh:∀{l:List (List UInt8)} {cells:List Value},Recs (StrV I) 1 l cells→cells=strs l
 |[],_,h=>h
 |x::l,cells,⟨h1,h2,h3⟩=>by
  have:=Hh h3;obtain ⟨c,cs,rfl⟩:∃c cs,cells=c::cs:=by
   cases cells with
   |nil=>simp at h1
   |cons c cs=>exact ⟨c,cs,rfl⟩
  have e:c=BW x:=by simpa [StrV] using h2
  simp only [List.drop_succ_cons,List.drop_zero] at this;rw [this,e];rfl
theorem HS {v:Value}{l:List (List UInt8)}(h:AFb I L v l)(hlen:l.length * 16≤140737488355328)(hk:∀X v',StrO X v' l→K v' I (X++L)):CT ω 145 #[v] K I L:=by
 refine AIX ?_;unfold ZB;obtain ⟨cells,hn,hr⟩:=RL.news' h;obtain rfl:=Hh hr;obtain ⟨a,cap,rfl⟩:=RL.form h;cases a with
 |none=>
  try simp only [SSd,Nat.reduceAdd]
  have hl0:l.length=0:=by
   rcases hn with ⟨_,_,_,h0,_⟩|⟨_,_,_,e,_⟩|⟨_,e,_⟩
   ·exact h0
   ·cases e
   ·cases e
  have:l=[]:=List.eq_nil_of_length_eq_zero hl0;subst this;exact Gh.done (hk [] _ (SlO.none _ 1))
 |some a=>
  try simp only [SSd,Nat.reduceAdd]
  refine QO (fun X u hX=>?_);refine DJ rfl hX (hn.mono (Ext.refl _) (fun _ h=>List.mem_append_right _ h)) (Hg _) (by omega) (by omega) (fun X' v' hX'=>?_);simp only [Nat.zero_add,List.nil_append] at hX' ⊢;exact Gh.done (hk X' _ hX')
theorem Hj {b off len cap lo hi n:Nat}{blo bhi:Option Value}(hlo:Co blo 0 hi=some lo)(hhi:Co bhi len cap=some hi)(hne:lo < cap):
  BL n (.slice (some ⟨b,off,none⟩) len cap) blo bhi none=some (.slice (some ⟨b,off+lo * n,none⟩) (hi - lo) (cap - lo)):=by
 have h0:Co none cap cap=some cap:=rfl;simp only [BL,Option.isNone_none,Option.isSome_none,Bool.and_false,Bool.false_eq_true,if_false,h0,Option.bind_some,hhi,hlo];rw [if_neg (by omega)];simp [Be]
theorem AKr {a:Option Addr}{len cap lo hi n:Nat}{blo bhi:Option Value}(hlo:Co blo 0 hi=some lo)(hhi:Co bhi len cap=some hi):∃u,BL n (.slice a len cap) blo bhi none=some u:=by
 have h0:Co none cap cap=some cap:=rfl;simp only [BL,Option.isNone_none,Option.isSome_none,Bool.and_false,Bool.false_eq_true,if_false,h0,Option.bind_some,hhi,hlo];exact ⟨_,rfl⟩
theorem AKh {d y:Nat}:Co none d y=some d:=rfl
theorem ABo {b off len cap m n T:Nat}{cs:Array Value}{L1 L2:LH}{x:Value}{xs:List Value}{K:Value→M}(hn:News n x I (L1++(b,.cells cs T (0,0))::L2) m xs)(hle:off+(min m len) * n≤cs.size)
  (h1:∀u∈xs.take (min m len * n),u.oneCell'=true) (hk:K (.int .i64 (min m len:Nat)) I (L1++(b,.cells (wr cs off (xs.take (min m len * n))) T (0,0))::L2)):
  HX n (.slice (some ⟨b,off,none⟩) len cap) x (gh K) I (L1++(b,.cells cs T (0,0))::L2):=
 ⟨_,len,cap,m,xs,rfl,hn,.inr ⟨b,off,cs,T,L1,L2,rfl,rfl,hle,h1,Gh.done hk⟩⟩
theorem NG {l:List (List UInt8)}{k:List UInt8}{i:Nat}(hi:i≤l.length){cs:Array Value}(h1:∀(j:Nat) (u:Value),j < i→(strs l)[j]? =some u→cs[j]? =some u)(h2:cs[i]? =some (BW k))
  (h3:∀(j:Nat) (u:Value),i≤j→(strs l)[j]? =some u→cs[j+1]? =some u):∀(j:Nat) (u:Value),(strs (l.take i++k::l.drop i))[j]? =some u→cs[j]? =some u:=by
 intro j u hu;have ht:(l.take i).length=i:=by simp;omega
 have e:strs (l.take i++k::l.drop i)=(strs l).take i++BW k::(strs l).drop i:=by simp [strs]
 have ht':((strs l).take i).length=i:=by simp [strs];omega
 rw [e] at hu;by_cases hj:j < i
 ·rw [List.getElem?_append_left (by omega),List.getElem?_take] at hu;rw [if_pos hj] at hu;exact h1 j u hj hu
 ·rw [List.getElem?_append_right (by omega),ht'] at hu;by_cases hj':j=i
  ·subst hj';simp at hu;rw [h2,hu]
  ·obtain ⟨q,rfl⟩:∃q,j=i+q+1:=⟨j - i - 1,by omega⟩;rw [show i+q+1 - i=q+1 by omega,List.getElem?_cons_succ,List.getElem?_drop] at hu;exact h3 (i+q) u (by omega) hu
theorem OH {bv b off la ca lb cb T T2:Nat}{va cs:Array Value}{F:LH}(hsz:0 < cs.size)(hk:K (.bool false) I ((b,Obj.cells cs T2 (0,0))::(bv,Obj.cells va T (0,0))::F)):
  Og Tryz.prog ω (Extern.SlicesOverlaps.overlaps #[177,177] #[4]) #[.slice (some ⟨bv,0,none⟩) la ca,.slice (some ⟨b,off,none⟩) lb cb] K I ((b,Obj.cells cs T2 (0,0))::(bv,Obj.cells va T (0,0))::F):=by
 refine ⟨.bool false,fun w hs=>?_,hk⟩;have h1:=hs.own b _ (List.mem_cons_self ..);have h2:=hs.own bv _ (List.mem_cons_of_mem _ (List.mem_cons_self ..));have hn:=hs.nodup;have hne:bv≠b:=by
  rintro rfl;simp at hn
 obtain ⟨inf,zv,hi',hz,_,hn1,_,_,_⟩:=Ax (show BR Tryz.prog 9=some (1,16,#[.string ⟨#[]⟩]) by kernel_rfl);refine Lib.run_overlaps_apart w _ _ 9 Tryz.underlying177 1 (fun w=>by rw [run_sizeOf hi',hn1]) _ _ _ _ _ _ hne T T2 va.size cs.size ?_ ?_ (by omega) ?_ ?_
 ·simp [World.shape?,h2]
 ·simp [World.shape?,h1]
 ·simp [World.frozen?,h2]
 ·simp [World.frozen?,h2]
theorem Pu {X F:LH}{v:Value}{l:List (List UInt8)}{i bv:Nat}{k:List UInt8}{T:Nat}(h:StrO X v l)(hi:i≤l.length)(hlen:l.length≤1000000000)
  (hk:∀X' v',StrO X' v' (l.take i++k::l.drop i)→K v' I (X'++F)):
  CT ω 242 #[v,.int .i64 i,.slice (some ⟨bv,0,none⟩) 1 1] K I (X++(bv,.cells #[BW k] T (0,0))::F):=by
 refine AHQ ?_;unfold Wo;have hv:∀L',(bv,Obj.cells #[BW k] T (0,0))∈L'→News 1 (.slice (some ⟨bv,0,none⟩) 1 1) I L' 1 [BW k]:=fun L' hm=>.inr (.inl ⟨bv,0,1,rfl,rfl,fun j u hu=>Cell.own hm (by simpa using hu)⟩);have hmem:(bv,Obj.cells #[BW k] T (0,0))∈X++(bv,Obj.cells #[BW k] T (0,0))::F:=List.mem_append_right _ (List.mem_cons_self ..);by_cases hin:i=l.length
 ·obtain ⟨a,cap,rfl⟩:=h.form;obtain ⟨u,hu⟩:=AKr (n:=1) (a:=a) (len:=l.length) (cap:=cap) (lo:=i) (hi:=l.length) (blo:=some (.int .i64 i)) (bhi:=none) (BG _ _ _ _ (by omega)) rfl;simp only [hu,SSd,Nat.reduceAdd];have e1:((1:Int)==0)=false:=rfl;have e2:((i:Int)==(l.length:Int))=true:=by rw [hin];simp
  simp only [Int.natCast_one,e1,e2,SSd,Nat.reduceAdd];refine DJ (len:=l.length) (m:=1) rfl h (hv _ hmem) (AE rfl) (by omega) (by omega) (fun X' v' hX'=>?_);refine Gh.to (X'++F) (Gh.done (hk X' v' ?_));subst hin;simpa [strs,StrO] using hX'
 ·obtain ⟨hcl,⟨_,h0,_⟩|⟨b,cap,cs,rfl,rfl,hsz,hle,hcs⟩⟩:=h
  ·omega
  have s1:=Hj (b:=b) (off:=0) (len:=l.length) (cap:=cap) (lo:=i) (hi:=l.length) (n:=1) (blo:=some (.int .i64 i)) (bhi:=none) (BG _ _ _ _ (by omega)) rfl (by omega);have e1:((1:Int)==0)=false:=rfl;have e2:((i:Int)==(l.length:Int))=false:=by simp;omega
  simp only [s1,SSd,Nat.reduceAdd];simp only [Int.natCast_one,e1,e2,SSd,Nat.reduceAdd];simp only [wrap_i64 ((l.length:Int)+1) (by omega)];refine AD (fun e=>?_) (fun e=>?_)
  ·simp at e;have hcap:cap=l.length:=by omega
   have s2:=Hj (b:=b) (off:=0) (len:=l.length) (cap:=cap) (lo:=0) (hi:=i) (n:=1) (blo:=none) (bhi:=some (.int .i64 i)) rfl (BG _ _ _ _ (by omega)) (by omega);simp only [s2,SSd,Nat.reduceAdd];simp only [wrap_i64 ((l.length:Int)+1 - i) (by omega)];have em:((l.length:Int)+1 - i)=((l.length+1 - i:Nat):Int):=by omega
   rw [em];refine ⟨_,_,_,l.length+1 - i,rfl,rfl,AE rfl,by omega,by omega,.inr (.inr ⟨by omega,by omega,by omega,strs (l.take i),_,.inr (.inl ⟨b,0,cap,by simp,by simp [strs];omega,fun j u hu=>Cell.own (List.mem_cons_self ..) (hcs _ _ ?_)⟩),List.Sublist.refl _,fun b' c hc=>Gh.done ?_⟩)⟩
   ·have:strs (l.take i)=(strs l).take i:=by simp [strs]
    rw [this,List.getElem?_take] at hu;split at hu
    ·simpa using hu
    ·cases hu
   have hilen:i - 0+(l.length+1 - i)=l.length+1:=by omega
   have hilen':i+(l.length+1 - i)=l.length+1:=by omega
   simp only [Nat.sub_zero,hilen'] at hc ⊢;have s3:=Hj (b:=b') (off:=0) (len:=l.length+1) (cap:=c) (lo:=i) (hi:=l.length+1) (n:=1) (blo:=some (.int .i64 i)) (bhi:=none) (BG _ _ _ _ (by omega)) rfl (by omega);simp only [s3,SSd,Nat.reduceAdd];have hS:∀L',(b,Obj.cells cs 9 (0,0))∈L'→News 1 (.slice (some ⟨b,i * 1,none⟩) (l.length - i) (cap - i)) I L' (l.length - i) ((strs l).drop i):=fun L' hm=>.inr (.inl ⟨b,i * 1,cap - i,rfl,by simp [strs],fun j u hu=>Cell.own hm (by
    rw [List.getElem?_drop] at hu;simpa using hcs _ _ hu)⟩)
   have hz1:=CK #[Value.string (ByteArray.mk #[])] (l.length+1 - i);have hz2:=CK #[Value.string (ByteArray.mk #[])] (c - (l.length+1));have hz0:(#[Value.string (ByteArray.mk #[])]:Array Value).size=1:=rfl;rw [hz0,Nat.mul_one] at hz1 hz2;have hst:(strs (l.take i)).length=i:=by simp [strs];omega
   obtain ⟨A,hA,hAs,hA1⟩:∃A:Array Value,A=(strs (l.take i)).toArray++Builtin.zeroCells #[Value.string (ByteArray.mk #[])] (l.length+1 - i)++Builtin.zeroCells #[Value.string (ByteArray.mk #[])] (c - (l.length+1))∧A.size=c∧
     ∀(j:Nat) (u:Value),j < i→(strs l)[j]? =some u→A[j]? =some u:=by
    refine ⟨_,rfl,by simp only [Array.size_append,List.size_toArray,hz1,hz2,hst];omega,fun j u hj hu=>?_⟩;have:strs (l.take i)=(strs l).take i:=by simp [strs]
    rw [Array.append_assoc,Array.getElem?_append_left (by simp only [List.size_toArray];omega),List.getElem?_toArray,this,List.getElem?_take,if_pos hj];exact hu
   rw [←hA];refine ABo (L1:=[]) (hv _ (List.mem_cons_of_mem _ hmem)) (by rw [hAs];have:=Nat.min_le_left 1 (l.length+1 - i);omega) (fun u hu=>AE (vs:=[BW k]) rfl u (List.mem_of_mem_take hu)) ?_;refine draw (fun _ _=>True) trivial ?_;simp only [wrap_i64 ((i:Int)+1) (by omega),SSd,Nat.reduceAdd];have s4:=Hj (b:=b') (off:=0) (len:=l.length+1) (cap:=c) (lo:=i+1) (hi:=l.length+1) (n:=1) (blo:=some (.int .i64 ((i+1:Nat):Int))) (bhi:=none) (BG _ _ _ _ (by omega)) rfl (by omega);rw [Int.natCast_add,Int.natCast_one] at s4;simp only [s4,s1,SSd,Nat.reduceAdd];refine ABo (L1:=[]) (hS _ (by simp)) (by rw [Bi,hAs];have:=Nat.min_le_left (l.length - i) (l.length+1 - (i+1));omega) (fun u hu=>Hg l u (List.mem_of_mem_drop (List.mem_of_mem_take hu))) ?_;generalize hW:wr (wr A (i * 1) _) ((i+1) * 1) _=W;have hWs:W.size=c:=by rw [←hW,Bi,Bi,hAs]
   refine Gh.to ((b',Obj.cells W 9 (0,0))::F) (Gh.done (hk [(b',Obj.cells W 9 (0,0))] _ ⟨by first|(simp [strs];done)|(simp [strs];omega),.inr ⟨b',c,W,rfl,?_,by omega,by first|(simp [strs];done)|(simp [strs];omega),?_⟩⟩))
   ·first|(simp;done)|(simp;omega)
   subst hW;have hm1:min 1 (l.length+1 - i)=1:=Nat.min_eq_left (by omega);have hm2:min (l.length - i) (l.length+1 - (i+1))=l.length - i:=Nat.min_eq_left (by omega);have ht:((strs l).drop i).take (l.length - i)=(strs l).drop i:=List.take_of_length_le (by simp [strs]);have hdl:((strs l).drop i).length=l.length - i:=by simp [strs]
   simp only [hm1,hm2,Nat.mul_one,ht,List.take_succ_cons,List.take_zero];refine NG hi (fun j u hj hu=>?_) ?_ (fun j u hj hu=>?_)
   ·rw [CS _ _ _ _ (by rw [Bi,hAs,hdl];omega),if_pos (by omega),CS _ _ _ _ (by rw [hAs];simp;omega),if_pos hj];exact hA1 j u hj hu
   ·rw [CS _ _ _ _ (by rw [Bi,hAs,hdl];omega),if_pos (by omega),CS _ _ _ _ (by rw [hAs];simp;omega),if_neg (by omega),if_pos (by simp)];simp
   ·have hjl:j < (strs l).length:=(List.getElem?_eq_some_iff.1 hu).1;rw [KS] at hjl;rw [CS _ _ _ _ (by rw [Bi,hAs,hdl];omega),if_neg (by omega),if_pos (by rw [hdl];omega),List.getElem?_drop,show i+(j+1 - (i+1))=j by omega];exact hu
  ·simp at e;have s2:=Hj (b:=b) (off:=0) (len:=l.length) (cap:=cap) (lo:=0) (hi:=l.length+1) (n:=1) (blo:=none) (bhi:=some (.int .i64 ((l.length+1:Nat):Int))) rfl (BG _ _ _ _ (by omega)) (by omega);rw [Int.natCast_add,Int.natCast_one] at s2;simp only [s2,SSd,Nat.reduceAdd];simp only [wrap_i64 ((i:Int)+1) (by omega)];have s4:=Hj (b:=b) (off:=0) (len:=l.length+1) (cap:=cap) (lo:=i+1) (hi:=l.length+1) (n:=1) (blo:=some (.int .i64 ((i+1:Nat):Int))) (bhi:=none) (BG _ _ _ _ (by omega)) rfl (by omega);rw [Int.natCast_add,Int.natCast_one] at s4;have s5:=Hj (b:=b) (off:=0) (len:=l.length+1) (cap:=cap) (lo:=i) (hi:=l.length+1) (n:=1) (blo:=some (.int .i64 i)) (bhi:=none) (BG _ _ _ _ (by omega)) rfl (by omega);simp only [Nat.sub_zero] at *;simp only [s4,SSd,Nat.reduceAdd];refine OH (by omega) (Gh.done ?_);simp only [Bool.not_false,SSd,Nat.reduceAdd];refine draw (fun _ _=>True) trivial ?_;simp only [s4,s5,SSd,Nat.reduceAdd];have hgu:∃g,cs[l.length]? =some g:=⟨_,Array.getElem?_eq_getElem (by omega)⟩;obtain ⟨g,hg⟩:=hgu;have hdl:((strs l).drop i).length=l.length - i:=by simp [strs]
   have hS:∀L',(b,Obj.cells cs 9 (0,0))∈L'→News 1 (.slice (some ⟨b,i * 1,none⟩) (l.length+1 - i) (cap - i)) I L' (l.length+1 - i) ((strs l).drop i++[g]):=fun L' hm=>.inr (.inl ⟨b,i * 1,cap - i,rfl,by simp [hdl];omega,fun j u hu=>Cell.own hm (by
    by_cases hj:j < l.length - i
    ·rw [List.getElem?_append_left (by omega),List.getElem?_drop] at hu;simpa using hcs _ _ hu
    ·rw [List.getElem?_append_right (by omega),hdl] at hu;have:j - (l.length - i)=0:=by
      have:=(List.getElem?_eq_some_iff.1 hu).1;simp at this;omega
     rw [this] at hu;simp at hu;subst hu;rw [←hg];congr 1;omega)⟩)
   have hm2:min (l.length+1 - i) (l.length+1 - (i+1))=l.length - i:=by omega
   have ht:((strs l).drop i++[g]).take (l.length - i)=(strs l).drop i:=by rw [←hdl];simp
   refine ABo (L1:=[]) (hS _ (by simp)) (by rw [hm2];omega) (fun u hu=>?_) ?_
   ·rw [hm2,Nat.mul_one,ht] at hu;exact Hg l u (List.mem_of_mem_drop hu)
   simp only [hm2,Nat.mul_one,ht];refine ABo (L1:=[]) (hv _ (by simp)) (by rw [Bi];have:=Nat.min_le_left 1 (l.length+1 - i);omega) (fun u hu=>AE (vs:=[BW k]) rfl u (List.mem_of_mem_take hu)) ?_;have hm1:min 1 (l.length+1 - i)=1:=Nat.min_eq_left (by omega);simp only [hm1,Nat.mul_one,List.take_succ_cons,List.take_zero];generalize hW:wr (wr cs (i+1) _) i _=W;have hWs:W.size=cap:=by rw [←hW,Bi,Bi];omega
   refine Gh.to ((b,Obj.cells W 9 (0,0))::F) (Gh.done (hk [(b,Obj.cells W 9 (0,0))] _ ⟨by first|(simp [strs];done)|(simp [strs];omega),.inr ⟨b,cap,W,rfl,?_,by omega,by first|(simp [strs];done)|(simp [strs];omega),?_⟩⟩))
   ·first|(simp;done)|(simp;omega)
   subst hW;refine NG hi (fun j u hj hu=>?_) ?_ (fun j u hj hu=>?_)
   ·rw [CS _ _ _ _ (by rw [Bi];simp;omega),if_pos hj,CS _ _ _ _ (by rw [hdl];omega),if_pos (by omega)];exact hcs j u hu
   ·rw [CS _ _ _ _ (by rw [Bi];simp;omega),if_neg (by omega),if_pos (by simp)];simp
   ·have hjl:j < (strs l).length:=(List.getElem?_eq_some_iff.1 hu).1;rw [KS] at hjl;rw [CS _ _ _ _ (by rw [Bi];simp;omega),if_neg (by omega),if_neg (by simp;omega),CS _ _ _ _ (by rw [hdl];omega),if_neg (by omega),if_pos (by rw [hdl];omega),List.getElem?_drop,show i+(j+1 - (i+1))=j by omega];exact hu
theorem QI {X F:LH}{v:Value}{l:List (List UInt8)}{i:Nat}(h:StrO X v l)(hi:i < l.length)(hlen:l.length≤1000000000)
  (hk:∀X' v',StrO X' v' (l.take i++l.drop (i+1))→K v' I (X'++F)):
  CT ω 246 #[v,.int .i64 i,.int .i64 ((i:Int)+1)] K I (X++F):=by
 refine AHM ?_;unfold Wg;obtain ⟨hcl,⟨_,h0,_⟩|⟨b,cap,cs,rfl,rfl,hsz,hle,hcs⟩⟩:=h
 ·omega
 have hcast:((i:Int)+1)=((i+1:Nat):Int):=by omega
 have s0:∃u,BL 1 (.slice (some ⟨b,0,none⟩) l.length cap) (some (.int .i64 i)) (some (.int .i64 ((i:Int)+1))) (some (.int .i64 l.length))=some u:=by
  rw [hcast];simp only [BL,Option.isNone_some,Bool.false_and,Bool.false_eq_true,if_false,BG _ _ _ _ hle,BG _ _ _ _ (show i+1≤l.length by omega),BG _ _ _ _ (show i≤i+1 by omega),Option.bind_some];exact ⟨_,rfl⟩
 obtain ⟨u0,s0⟩:=s0;have e2:((i:Int)==(i:Int)+1)=false:=by simp;omega
 have s1:=Hj (b:=b) (off:=0) (len:=l.length) (cap:=cap) (lo:=0) (hi:=i) (n:=1) (blo:=none) (bhi:=some (.int .i64 i)) rfl (BG _ _ _ _ (by omega)) (by omega);obtain ⟨p,s2⟩:∃p,BL 1 (.slice (some ⟨b,0,none⟩) l.length cap) (some (.int .i64 ((i:Int)+1))) none none=some (.slice p (l.length - (i+1)) (cap - (i+1)))∧(0 < l.length - (i+1)→p=some ⟨b,i+1,none⟩):=by
  by_cases hc:i+1 < cap
  ·have:=Hj (b:=b) (off:=0) (len:=l.length) (cap:=cap) (lo:=i+1) (hi:=l.length) (n:=1) (blo:=some (.int .i64 ((i+1:Nat):Int))) (bhi:=none) (BG _ _ _ _ (by omega)) rfl (by omega);rw [←hcast] at this;exact ⟨_,this,fun _=>by simp⟩
  ·rw [hcast];have hh:i+1=cap:=by omega
   refine ⟨some ⟨b,0,none⟩,?_,fun h0=>by omega⟩;have h0:Co none cap cap=some cap:=rfl;have h1:Co none l.length cap=some l.length:=rfl;simp only [BL,Option.isNone_none,Option.isSome_none,Bool.and_false,Bool.false_eq_true,if_false,h0,h1,Option.bind_some,BG _ _ _ _ (show i+1≤l.length by omega)];rw [if_pos hh.symm]
 obtain ⟨s2,hp⟩:=s2;simp only [s0,e2,SSd,Nat.reduceAdd];refine draw (fun _ _=>True) trivial ?_;simp only [s1,s2,SSd,Nat.reduceAdd];have hdl:((strs l).drop (i+1)).length=l.length - (i+1):=by simp [strs]
 refine ⟨_,_,_,l.length - (i+1),(strs l).drop (i+1),rfl,?_,fun u hu=>Hg l u (List.mem_of_mem_drop hu),.inr (.inl ⟨by omega,b,0,cs,9,[],F,by simp,rfl,by omega,Gh.done ?_⟩)⟩
 ·by_cases h0:l.length - (i+1)=0
  ·exact .inl ⟨p,_,by rw [h0],h0,List.eq_nil_of_length_eq_zero (by omega)⟩
  ·refine .inr (.inl ⟨b,i+1,_,by rw [hp (by omega)],by omega,fun j u hu=>Cell.own (List.mem_cons_self ..) ?_⟩);rw [List.getElem?_drop] at hu;exact hcs _ _ hu
 have hil:i+(l.length - (i+1))=l.length - 1:=by omega
 simp only [Nat.sub_zero,hil,SSd,Nat.reduceAdd];have s3:=Hj (b:=b) (off:=0) (len:=l.length - 1) (cap:=cap) (lo:=l.length - 1) (hi:=l.length) (n:=1) (blo:=some (.int .i64 ((l.length - 1:Nat):Int))) (bhi:=some (.int .i64 l.length)) (BG _ _ _ _ (by omega)) (BG _ _ _ _ (by omega)) (by omega);simp only [s3,SSd,Nat.reduceAdd];refine .inr ⟨b,_,l.length - (l.length - 1),_,_,9,[],F,rfl,rfl,by rw [Bi];simp;omega,AE rfl,Gh.done ?_⟩;generalize hW:wr (wr cs _ _) _ _=W;have hWs:W.size=cap:=by rw [←hW,Bi,Bi];omega
 refine Gh.to ((b,Obj.cells W 9 (0,0))::F) (Gh.done (hk [(b,Obj.cells W 9 (0,0))] _ ⟨by first|(simp [strs];done)|(simp [strs];omega),.inr ⟨b,cap,W,rfl,?_,by omega,by first|(simp [strs];done)|(simp [strs];omega),?_⟩⟩))
 ·first|(simp;done)|(simp;omega)
 subst hW;intro j u hu;have e:strs (l.take i++l.drop (i+1))=(strs l).take i++(strs l).drop (i+1):=by simp [strs]
 have ht':((strs l).take i).length=i:=by simp [strs];omega
 have hjl:=(List.getElem?_eq_some_iff.1 hu).1;rw [KS] at hjl;simp at hjl;rw [e] at hu;have hzl:(Builtin.zeroCells #[Value.string (ByteArray.mk #[])] (l.length - (l.length - 1))).toList.length=1:=by
  rw [Array.length_toList,CK];simp;omega
 rw [CS _ _ _ _ (by rw [Bi,hzl];omega),if_pos (by omega),CS _ _ _ _ (by rw [hdl];omega)];by_cases hj:j < i
 ·rw [if_pos (by omega)];rw [List.getElem?_append_left (by omega),List.getElem?_take,if_pos hj] at hu;exact hcs j u hu
 ·rw [if_neg (by omega),if_pos (by rw [hdl];omega)];rw [List.getElem?_append_right (by omega),ht'] at hu;rw [←hu];congr 1;omega
end
end Go.Proofs.YtmmfcgbfbcamcaaGreatDoor
