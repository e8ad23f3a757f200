/- Texts of this proof, part 6: what the proof uses of them. -/
import Derived.Test.YtpnjjmcimjlfkaaGreatDoorDae
import Derived.Test.YtpnjjmcimjlfkaaGreatDoorProg
import Derived.Test.YtpnjjmcimjlfkaaGreatDoorRows
import Derived.Deep.Slices
import Derived.Carry
set_option maxRecDepth 100000
set_option maxHeartbeats 64000000
namespace Go.Proofs.YtpnjjmcimjlfkaaGreatDoor
section
section
open Go Go.RowKit
theorem zEE:Tryz.prog.cellsOf 3=1:=by kernel_rfl
theorem zGm:zba Tryz.prog 3=some false:=by kernel_rfl
theorem zED:Tryz.prog.cellsOf 4=1:=by kernel_rfl
theorem zFj:zz Tryz.prog 4=some (.bool false):=by kernel_rfl
theorem zGl:zba Tryz.prog 4=some false:=by kernel_rfl
theorem zEC:Tryz.prog.cellsOf 5=1:=by kernel_rfl
theorem zEH:Tryz.prog.bytesOf 5=1:=by kernel_rfl
theorem zFi:zz Tryz.prog 5=some (.int .u8 0):=by kernel_rfl
theorem zEB:Tryz.prog.cellsOf 9=1:=by kernel_rfl
theorem zEG:Tryz.prog.bytesOf 9=16:=by kernel_rfl
theorem zFh:zz Tryz.prog 9=some (.string ⟨#[]⟩):=by kernel_rfl
theorem zGk:zba Tryz.prog 9=some false:=by kernel_rfl
theorem zCJ:Tryz.prog.cellsOf 22=1:=by kernel_rfl
theorem zGa:zba Tryz.prog 22=some false:=by kernel_rfl
theorem zCI:Tryz.prog.cellsOf 23=1:=by kernel_rfl
theorem zFZ:zba Tryz.prog 23=some false:=by kernel_rfl
theorem zCH:Tryz.prog.cellsOf 24=1:=by kernel_rfl
theorem zDm:zz Tryz.prog 24=some (.slice none 0 0):=by kernel_rfl
theorem zFY:zba Tryz.prog 24=some false:=by kernel_rfl
theorem zCG:Tryz.prog.cellsOf 26=3:=by kernel_rfl
theorem zDl:zz Tryz.prog 26=some (.agg #[.slice none 0 0,.slice none 0 0,.slice none 0 0]):=by kernel_rfl
theorem zFX:zba Tryz.prog 26=some true:=by kernel_rfl
theorem zCF:Tryz.prog.cellsOf 39=1:=by kernel_rfl
theorem zFW:zba Tryz.prog 39=some false:=by kernel_rfl
theorem zCE:Tryz.prog.cellsOf 40=1:=by kernel_rfl
theorem zFV:zba Tryz.prog 40=some false:=by kernel_rfl
theorem zCD:Tryz.prog.cellsOf 42=2:=by kernel_rfl
theorem zDk:zz Tryz.prog 42=some (.agg #[.int .u64 0,.int .u64 0]):=by kernel_rfl
theorem zFU:zba Tryz.prog 42=some true:=by kernel_rfl
theorem zCC:Tryz.prog.cellsOf 53=1:=by kernel_rfl
theorem zFT:zba Tryz.prog 53=some false:=by kernel_rfl
theorem zCB:Tryz.prog.cellsOf 54=1:=by kernel_rfl
theorem zFS:zba Tryz.prog 54=some false:=by kernel_rfl
theorem zCA:Tryz.prog.cellsOf 56=3:=by kernel_rfl
theorem zCQ:Tryz.prog.bytesOf 56=64:=by kernel_rfl
theorem zDj:zz Tryz.prog 56=some (.agg #[.string ⟨#[]⟩,.slice none 0 0,.slice none 0 0]):=by kernel_rfl
theorem zFR:zba Tryz.prog 56=some true:=by kernel_rfl
theorem zCz:Tryz.prog.cellsOf 58=7:=by kernel_rfl
theorem zCP:Tryz.prog.bytesOf 58=72:=by kernel_rfl
theorem zDi:zz Tryz.prog 58=some (.agg #[.string ⟨#[]⟩,.bool false,.bool false,.bool false,.string ⟨#[]⟩,.string ⟨#[]⟩,.string ⟨#[]⟩]):=by kernel_rfl
theorem zFQ:zba Tryz.prog 58=some true:=by kernel_rfl
theorem zCy:Tryz.prog.cellsOf 60=4:=by kernel_rfl
theorem zCO:Tryz.prog.bytesOf 60=40:=by kernel_rfl
theorem zDh:zz Tryz.prog 60=some (.agg #[.string ⟨#[]⟩,.int .i64 0,.int .i64 0,.int .i64 0]):=by kernel_rfl
theorem zFP:zba Tryz.prog 60=some true:=by kernel_rfl
theorem zCx:Tryz.prog.cellsOf 62=2:=by kernel_rfl
theorem zCN:Tryz.prog.bytesOf 62=32:=by kernel_rfl
theorem zDg:zz Tryz.prog 62=some (.agg #[.string ⟨#[]⟩,.string ⟨#[]⟩]):=by kernel_rfl
theorem zFO:zba Tryz.prog 62=some true:=by kernel_rfl
theorem zCw:Tryz.prog.cellsOf 82=1:=by kernel_rfl
theorem zFN:zba Tryz.prog 82=some false:=by kernel_rfl
theorem zCv:Tryz.prog.cellsOf 83=1:=by kernel_rfl
theorem zFM:zba Tryz.prog 83=some false:=by kernel_rfl
theorem zCu:Tryz.prog.cellsOf 85=9:=by kernel_rfl
theorem zDf:zz Tryz.prog 85=some (.agg #[.int .i64 0,.string ⟨#[]⟩,.slice none 0 0,.int .u64 0,.int .u64 0,.slice none 0 0,.string ⟨#[]⟩,.int .i64 0,.string ⟨#[]⟩]):=by kernel_rfl
theorem zFL:zba Tryz.prog 85=some true:=by kernel_rfl
theorem zCt:Tryz.prog.cellsOf 93=3:=by kernel_rfl
theorem zCM:Tryz.prog.bytesOf 93=32:=by kernel_rfl
theorem zDe:zz Tryz.prog 93=some (.agg #[.int .u64 0,.int .u64 0,.string ⟨#[]⟩]):=by kernel_rfl
theorem zAm:zz Tryz.prog 101=some (.agg #[.slice none 0 0,.slice none 0 0]):=by kernel_rfl
theorem zAc:Tryz.prog.cellsOf 103=1:=by kernel_rfl
theorem zEQ:zba Tryz.prog 103=some false:=by kernel_rfl
theorem zAb:Tryz.prog.cellsOf 105=6:=by kernel_rfl
theorem zAd:Tryz.prog.bytesOf 105=80:=by kernel_rfl
theorem zAl:zz Tryz.prog 105=some (.agg #[.int .i64 0,.string ⟨#[]⟩,.string ⟨#[]⟩,.int .i64 0,.int .i64 0,.slice none 0 0]):=by kernel_rfl
theorem zEP:zba Tryz.prog 105=some true:=by kernel_rfl
theorem zAa:Tryz.prog.cellsOf 107=11:=by kernel_rfl
theorem zgT:zz Tryz.prog 107=some (.agg #[.int .i64 0,.int .i64 0,.bool false,.slice none 0 0,.bool false,.int .i64 0,.string ⟨#[]⟩,.string ⟨#[]⟩,.int .i64 0,.int .i64 0,.slice none 0 0]):=by kernel_rfl
theorem zEO:zba Tryz.prog 107=some true:=by kernel_rfl
theorem zzZ:Tryz.prog.cellsOf 144=1:=by kernel_rfl
theorem zEN:zba Tryz.prog 144=some false:=by kernel_rfl
theorem zEM:zba Tryz.prog 171=some false:=by kernel_rfl
theorem zAk:zz Tryz.prog 202=some (.agg #[.slice none 0 0,.bool false]):=by kernel_rfl
theorem zzY:Tryz.prog.cellsOf 326=5:=by kernel_rfl
theorem zAj:zz Tryz.prog 326=some (.agg #[.bool false,.bool false,.bool false,.bool false,.int .i64 0]):=by kernel_rfl
theorem zEL:zba Tryz.prog 326=some true:=by kernel_rfl
theorem mixed:Tryz.prog.follows .mixedOrders=true:=by kernel_rfl
attribute [go_sem] Tryz.underlying1 Tryz.underlying2 zEE zGm Tryz.underlying3 zFj zED zGl Tryz.underlying4 zFi zEC zEH Tryz.underlying5 Tryz.underlying6 Tryz.underlying7 Tryz.underlying8 zFh zEB zEG zGk Tryz.underlying9 Tryz.underlying10 Tryz.underlying11 Tryz.underlying12 Tryz.underlying13 Tryz.underlying14 Tryz.underlying15 Tryz.underlying16 Tryz.underlying17 Tryz.underlying18 Tryz.underlying19 Tryz.underlying20 Tryz.underlying21 zCJ zGa Tryz.underlying22 zCI zFZ Tryz.underlying23 zDm zCH zFY Tryz.underlying24 Tryz.underlying25 zDl zCG zFX Tryz.underlying26 Tryz.underlying27 Tryz.underlying28 Tryz.underlying29 Tryz.underlying30 Tryz.underlying31 Tryz.underlying32 Tryz.underlying33 Tryz.underlying35 Tryz.underlying36 Tryz.underlying37 Tryz.underlying38 zCF zFW Tryz.underlying39 zCE zFV Tryz.underlying40 Tryz.underlying41 zDk zCD zFU Tryz.underlying42 Tryz.underlying43 Tryz.underlying45 Tryz.underlying46 Tryz.underlying47 Tryz.underlying48 Tryz.underlying49 Tryz.underlying50 Tryz.underlying51 Tryz.underlying52 zCC zFT Tryz.underlying53 zCB zFS Tryz.underlying54 Tryz.underlying55 zDj zCA zCQ zFR Tryz.underlying56 Tryz.underlying57 zDi zCz zCP zFQ Tryz.underlying58 Tryz.underlying59 zDh zCy zCO zFP Tryz.underlying60 Tryz.underlying61 zDg zCx zCN zFO Tryz.underlying62 Tryz.underlying63 Tryz.underlying64 Tryz.underlying65 Tryz.underlying66 Tryz.underlying67 Tryz.underlying68 Tryz.underlying70 Tryz.underlying71 Tryz.underlying72 Tryz.underlying73 Tryz.underlying74 Tryz.underlying76 Tryz.underlying77 Tryz.underlying78 Tryz.underlying79 Tryz.underlying80 Tryz.underlying81 zCw zFN Tryz.underlying82 zCv zFM Tryz.underlying83 Tryz.underlying84 zDf zCu zFL Tryz.underlying85 Tryz.underlying86 Tryz.underlying88 Tryz.underlying90 Tryz.underlying91 Tryz.underlying92 zDe zCt zCM Tryz.underlying93 Tryz.underlying94 Tryz.underlying95 Tryz.underlying96 Tryz.underlying97 Tryz.underlying98 Tryz.underlying99 Tryz.underlying100 zAm Tryz.underlying101 Tryz.underlying102 zAc zEQ Tryz.underlying103 Tryz.underlying104 zAl zAb zAd zEP Tryz.underlying105 Tryz.underlying106 zgT zAa zEO Tryz.underlying107 Tryz.underlying108 Tryz.underlying109 Tryz.underlying110 Tryz.underlying111 Tryz.underlying113 Tryz.underlying114 Tryz.underlying115 Tryz.underlying116 Tryz.underlying117 Tryz.underlying118 Tryz.underlying119 Tryz.underlying120 Tryz.underlying121 Tryz.underlying122 Tryz.underlying123 Tryz.underlying124 Tryz.underlying125 Tryz.underlying126 Tryz.underlying127 Tryz.underlying128 Tryz.underlying129 Tryz.underlying130 Tryz.underlying131 Tryz.underlying133 Tryz.underlying134 Tryz.underlying135 Tryz.underlying136 Tryz.underlying137 Tryz.underlying139 Tryz.underlying141 Tryz.underlying142 Tryz.underlying143 zzZ zEN Tryz.underlying144 Tryz.underlying145 Tryz.underlying146 Tryz.underlying147 Tryz.underlying148 Tryz.underlying149 Tryz.underlying150 Tryz.underlying151 Tryz.underlying152 Tryz.underlying153 Tryz.underlying154 Tryz.underlying155 Tryz.underlying156 Tryz.underlying157 Tryz.underlying158 Tryz.underlying159 Tryz.underlying160 Tryz.underlying162 Tryz.underlying164 Tryz.underlying166 Tryz.underlying168 Tryz.underlying169 Tryz.underlying170 zEM Tryz.underlying171 Tryz.underlying172 Tryz.underlying173 Tryz.underlying174 Tryz.underlying175 Tryz.underlying176 Tryz.underlying177 Tryz.underlying178 Tryz.underlying179 Tryz.underlying180 Tryz.underlying181 Tryz.underlying182 Tryz.underlying183 Tryz.underlying184 Tryz.underlying186 Tryz.underlying187 Tryz.underlying188 Tryz.underlying189 Tryz.underlying190 Tryz.underlying192 Tryz.underlying193 Tryz.underlying194 Tryz.underlying195 Tryz.underlying196 Tryz.underlying197 Tryz.underlying198 Tryz.underlying199 Tryz.underlying200 Tryz.underlying201 zAk Tryz.underlying202 Tryz.underlying203 Tryz.underlying204 Tryz.underlying205 Tryz.underlying206 Tryz.underlying207 Tryz.underlying208 Tryz.underlying209 Tryz.underlying210 Tryz.underlying211 Tryz.underlying212 Tryz.underlying213 Tryz.underlying214 Tryz.underlying215 Tryz.underlying216 Tryz.underlying217 Tryz.underlying218 Tryz.underlying219 Tryz.underlying220 Tryz.underlying221 Tryz.underlying222 Tryz.underlying223 Tryz.underlying224 Tryz.underlying225 Tryz.underlying226 Tryz.underlying227 Tryz.underlying228 Tryz.underlying229 Tryz.underlying230 Tryz.underlying231 Tryz.underlying232 Tryz.underlying234 Tryz.underlying236 Tryz.underlying238 Tryz.underlying240 Tryz.underlying242 Tryz.underlying243 Tryz.underlying244 Tryz.underlying245 Tryz.underlying246 Tryz.underlying247 Tryz.underlying248 Tryz.underlying249 Tryz.underlying250 Tryz.underlying251 Tryz.underlying252 Tryz.underlying253 Tryz.underlying254 Tryz.underlying255 Tryz.underlying256 Tryz.underlying257 Tryz.underlying258 Tryz.underlying259 Tryz.underlying261 Tryz.underlying262 Tryz.underlying263 Tryz.underlying264 Tryz.underlying265 Tryz.underlying266 Tryz.underlying267 Tryz.underlying268 Tryz.underlying269 Tryz.underlying270 Tryz.underlying271 Tryz.underlying272 Tryz.underlying273 Tryz.underlying274 Tryz.underlying275 Tryz.underlying276 Tryz.underlying277 Tryz.underlying278 Tryz.underlying279 Tryz.underlying280 Tryz.underlying281 Tryz.underlying282 Tryz.underlying283 Tryz.underlying285 Tryz.underlying287 Tryz.underlying288 Tryz.underlying289 Tryz.underlying290 Tryz.underlying291 Tryz.underlying293 Tryz.underlying294 Tryz.underlying295 Tryz.underlying296 Tryz.underlying297 Tryz.underlying298 Tryz.underlying299 Tryz.underlying300 Tryz.underlying301 Tryz.underlying302 Tryz.underlying303 Tryz.underlying304 Tryz.underlying305 Tryz.underlying306 Tryz.underlying308 Tryz.underlying309 Tryz.underlying310 Tryz.underlying311 Tryz.underlying312 Tryz.underlying313 Tryz.underlying314 Tryz.underlying315 Tryz.underlying316 Tryz.underlying318 Tryz.underlying319 Tryz.underlying320 Tryz.underlying321 Tryz.underlying322 Tryz.underlying323 Tryz.underlying324 Tryz.underlying325 zAj zzY zEL Tryz.underlying326 Tryz.underlying328 Tryz.underlying329 Tryz.underlying330 Tryz.underlying331 Tryz.underlying333 Tryz.underlying334 Tryz.underlying335 Tryz.underlying336 Tryz.underlying337 Tryz.underlying338 Tryz.underlying339 Tryz.underlying340 Tryz.underlying341 Tryz.underlying342 Tryz.underlying343 Tryz.underlying345 Tryz.underlying346 Tryz.underlying347 Tryz.underlying348 Tryz.underlying349 Tryz.underlying350 Tryz.underlying351 Tryz.underlying352 Tryz.underlying353 Tryz.underlying354 Tryz.underlying355 Tryz.underlying358 Tryz.underlying360 Tryz.underlying361 Tryz.underlying363 Tryz.underlying364 Tryz.underlying366 Tryz.underlying367 Tryz.underlying368 Tryz.underlying369 Tryz.underlying370 Tryz.underlying371 Tryz.underlying372 Tryz.underlying373 Tryz.underlying374 Tryz.underlying375 Tryz.underlying376 Tryz.underlying377 mixed
end
end
section
open Go Go.RowKit
theorem zlw {α:Type}:∀ (a b:List (Nat × α)) (r:Nat),zQ (a++b) r=match zQ a r with
  | some v=>some v
  | none=>zQ b r
 | [],b,r=>rfl
 | x :: a,b,r=>by
  simp only [List.cons_append,zQ]
  by_cases h:x.1=r
  ·rw [if_pos h,if_pos h]
  ·rw [if_neg h,if_neg h];exact zlw a b r
end
section
open Go Go.RowKit
end
section
open Go Go.RowKit
def zgV:List (Nat × AV)→List (Nat × AV)
 | []=>[]
 | (k,x) :: r=>(k+1000000,x) :: zgV r
def zqE:List (Nat × AV)→List (Nat × AV)
 | []=>[]
 | (k,x) :: r=>if k<1000000 then zqE r else (k - 1000000,x) :: zqE r
theorem zlu:∀ (l:List (Nat × AV)) (t:Nat),zQ (zgV l) (t+1000000)=zQ l t
 | [],_=>rfl
 | (k,x) :: r,t=>by
  unfold zgV zQ
  rw [zlu r t]
  by_cases h:k=t
  ·subst h;simp
  ·rw [if_neg (by omega),if_neg h]
theorem zhg:∀ (l:List (Nat × AV)) {t:Nat},t<1000000→zQ (zgV l) t=none
 | [],_,_=>rfl
 | (k,x) :: r,t,h=>by
  unfold zgV zQ
  rw [zhg r h,if_neg (by omega)]
theorem ziP:∀ (l:List (Nat × AV)) (t:Nat),zQ (zqE l) t=zQ l (t+1000000)
 | [],_=>rfl
 | (k,x) :: r,t=>by
  unfold zqE
  by_cases h:k<1000000
  ·rw [if_pos h,ziP r t,zQ,if_neg (by omega)]
  ·rw [if_neg h,zQ,zQ,ziP r t]
   by_cases h2:k=t+1000000
   ·rw [if_pos (by omega),if_pos h2]
   ·rw [if_neg (by omega),if_neg h2]
def St.enterI (σ:St) (args:List AV):St:=⟨(args.zipIdx.map fun x=>(x.2,x.1))++zgV σ.env,σ.blks,σ.toks⟩
def St.backI (σ:St):St:=⟨zqE σ.env,σ.blks,σ.toks⟩
def rawAV (P:Program) (σ:St):ResultVar→Option AV
 | .tmp t=>some (σ.eval (.tmp t))
 | .cell p ty=>match σ.eval (.tmp p) with
  | .box r j=>match σ.blk r with
   | some (.cell _ cs)=>zaw P ty (cs.drop j)
   | _=>none
  | _=>none
def zno (P:Program) (σ:St):List ResultVar→Option (List AV)
 | []=>some []
 | r :: rs=>match rawAV P σ r,zno P σ rs with
  | some y,some ys=>some (y :: ys)
  | _,_=>none
def rawRes (P:Program) (σ:St) (rs:List ResultVar):Option AV:=
 match zno P σ rs with
 | some [x]=>some x
 | some xs=>some (.tup xs)
 | none=>none
def zyN (P:Program) (rs:List ResultVar) (K:AV→St→Prop):Exit→St→Prop
 | .normal,σ | .ret,σ=>match rawRes P σ rs with
  | some y=>K y σ
  | none=>False
 | _,_=>False
variable {P:Program} {A:Base P} {σ:St} {g:Gh} {a:Act} {w:World}
theorem Ok.rawAV (hk:Ok A σ g a w) {r:ResultVar} {y:AV} (h:Go.Proofs.YtpnjjmcimjlfkaaGreatDoor.rawAV P σ r=some y):∃ v,(zfe a.tmps r).run P w = .ok v w∧Has g σ.tk w y v:=by
 cases r with
 | tmp t=>cases h;exact⟨_,rfl,hk.eval (.tmp t)⟩
 | cell p ty=>
  unfold Go.Proofs.YtpnjjmcimjlfkaaGreatDoor.rawAV at h
  simp only at h
  split at h
  ·rename_i r j hp
   split at h
   ·rename_i ty' cs hb
    have he:Has g σ.tk w (σ.eval (.tmp p)) (a.tmps.getD p undef):=hk.eval (.tmp p)
    rw [hp] at he
    obtain⟨hB,arr,c1,c2,c3⟩:=hk.blk r _ hb
    obtain⟨v,hv,hh⟩:=zmX (P:=P) (g:=g) (σ:=σ) (w:=w) (q:=g.m r) (off:=j) h (fun i hi=>by
     simp only [List.length_drop] at hi
     have hj:j+i<arr.length:=by omega
     refine⟨arr[j+i],by simp [World.cell?,c1,hj],?_⟩
     rw [List.getElem_drop]
     exact c3 (j+i) (by omega) hj)
    exact⟨v,by simp only [zfe,he.box_eq,asAddr,Sem.run_bind,Sem.run_pure,Result.andThen_ok];exact hv,hh⟩
   ·cases h
  ·cases h
theorem Ok.rawRes (hk:Ok A σ g a w) {fn:Func} {y:AV} (h:Go.Proofs.YtpnjjmcimjlfkaaGreatDoor.rawRes P σ fn.results.toList=some y):∃ v,(Go.results fn a.tmps).run P w = .ok v w∧Has g σ.tk w y v:=by
 have key:∀ (rs:List ResultVar) (ys:List AV),zno P σ rs=some ys→∃ vs:List Value,(rs.mapM (m:=Go.Sem) (zfe a.tmps)).run P w = .ok vs w∧ys.length=vs.length∧∀ i (hi:i<ys.length) (hv:i<vs.length),Has g σ.tk w ys[i] vs[i]:=by
  intro rs
  induction rs with
  | nil=>intro ys h;cases h;exact⟨[],rfl,rfl,fun i hi=>by simp at hi⟩
  | cons r rs ih=>
   intro ys h
   unfold zno at h
   split at h
   ·rename_i y1 ys1 h1 h2
    cases h
    obtain⟨vs,h3,h4,h5⟩:=ih ys1 h2
    obtain⟨v,h6,h7⟩:=hk.rawAV h1
    refine⟨v :: vs,?_,by simp [h4],fun i hi hv=>?_⟩
    ·simp only [List.mapM_cons,Sem.run_bind,h6,Result.andThen_ok,h3,Sem.run_pure]
    ·cases i with
     | zero=>simpa using h7
     | succ i=>simpa using h5 i (by simpa using hi) (by simpa using hv)
   ·cases h
 unfold Go.Proofs.YtpnjjmcimjlfkaaGreatDoor.rawRes at h
 split at h
 ·rename_i x hx
  cases h
  obtain⟨vs,h1,h2,h3⟩:=key _ _ hx
  obtain⟨v,rfl⟩:∃ v,vs=[v]:=by
   cases vs with
   | nil=>simp at h2
   | cons v vs=>cases vs with
    | nil=>exact⟨v,rfl⟩
    | cons u us=>simp at h2
  refine⟨v,?_,by simpa using h3 0 (by simp) (by simp)⟩
  rw [zdv _ h1];rfl
 ·rename_i xs hne hx
  cases h
  obtain⟨vs,h1,h2,h3⟩:=key _ _ hx
  refine⟨.tuple vs.toArray,?_,.tup xs vs h2 h3⟩
  rw [zdv _ h1,dif_neg]
  intro hs
  obtain⟨x,rfl⟩:∃ x,xs=[x]:=by
   have hl:xs.length=1:=by rw [h2];simpa using hs
   cases xs with
   | nil=>simp at hl
   | cons x xs=>cases xs with
    | nil=>exact⟨x,rfl⟩
    | cons y ys=>simp at hl
  exact hne x rfl
 ·cases h
theorem ztY (k n:Nat) {all:List Oper} {f:FuncId} {o:Oper} {rest:List Oper} {i base:Nat} {s:List Itm} {Q:Exit→St→Prop} {asL:List AV} {fn:Func} {c:Code}
  (hent : zdm P f → ∀ g a w,Ok A σ g a w → ∃ us : List Value,(execOp a.eval o).run P w = .ok (.enter f us.toArray) w ∧ us.length = asL.length ∧ ∀ i (hi : i < asL.length) (hv : i < us.length),Has g σ.tk w asL[i] us[i]) (hfn : P.funcs[f]? = some fn) (hb : fn.body = some c) (hnm : (fn.name == "runtime.NumGoroutine") = false)
  (hle:asL.length≤fn.ntmps) (hN:fn.ntmps≤1000000) (hd:zat A.N o=true)
  (h:∀ A':Base P,A'.N=fn.ntmps→(A'.fx=A.fx∧A'.tk0=A.tk0)→zbe P A' c (σ.enterI asL) (stk P A' [.off k] (zyN P fn.results.toList fun y σ'=>go P A n (.ops all rest (i+1) base) s (σ'.backI.put o.dst y) Q))):zoQ P A all o rest σ (stk P A s Q):=by
 intro g a w hk
 have hen:zdm P f:=⟨fn,hfn,hnm,by rw [hb];rfl⟩
 obtain⟨us,hr',hul,hhas⟩:=hent hen g a w hk
 refine zcN hr' (calls_of_wp hfn hb ?_)
 have hk2:Ok { A with N:=fn.ntmps,ro:=none,ds:=[],kv:=fun t=>if t<1000000 then undef else A.val a (t - 1000000),kvU:=fun t ht=>if_pos ht } (σ.enterI asL) g { tmps:=us.toArray++Array.replicate (fn.ntmps - us.toArray.size) undef,defers:=[] } w:=by
  refine⟨hk.below,hk.hB,hk.F0,hk.Fn,hk.Fb,rfl,by simp;omega,fun t=>?_,hk.blk,hk.Fblk,hk.inj,hk.tok,hk.Ftok,hk.tokblk,hk.toktok,hk.fix,hk.hist⟩
  have hget:(σ.enterI asL).get t=if h:t<asL.length then asL[t] else (zQ (zgV σ.env) t).getD .dead:=by
   unfold St.enterI St.get
   rw [zlw,zdD]
   simp only [Nat.zero_le,if_true,Nat.sub_zero]
   by_cases ht:t<asL.length
   ·rw [dif_pos ht,List.getElem?_eq_getElem ht];rfl
   ·rw [dif_neg ht,List.getElem?_eq_none (Nat.le_of_not_lt ht)]
  rw [hget]
  unfold Base.val
  simp only
  by_cases ht:t<asL.length
  ·have htv:t<us.length:=by omega
   have e1:(us.toArray++Array.replicate (fn.ntmps - us.toArray.size) undef).getD t undef=us[t]:=by
    rw [Array.getD_eq_getD_getElem?,Array.getElem?_append_left (by simpa using htv)]
    simp [htv]
   rw [if_pos (by omega),dif_pos ht,e1]
   exact hhas t ht htv
  ·rw [dif_neg ht]
   by_cases h6:t<1000000
   ·rw [zhg _ h6];exact Has.dead _
   ·obtain⟨u,rfl⟩:∃ u,t=u+1000000:=⟨t - 1000000,by omega⟩
    rw [zlu,if_neg (by omega),if_neg h6,Nat.add_sub_cancel]
    exact hk.env u
 refine wp_mono (wpIn_wide.1 (h _ (by rfl) (by exact⟨rfl,rfl⟩) g _ w hk2)) fun e a' w' hq=>?_
 obtain⟨σ',g',h1,h2⟩:=hq
 have hret:(match Go.Proofs.YtpnjjmcimjlfkaaGreatDoor.rawRes P σ' fn.results.toList with | some y=>go P A n (.ops all rest (i+1) base) s (σ'.backI.put o.dst y) Q | none=>False)→a'.defers=[]∧∃ v,(Go.results fn a'.tmps).run P w' = .ok v w'∧wpListIn A.fe 0 P all.toArray (zgh A (stk P A s Q)) rest (a.put o.dst v) w':=fun hm=>by
  split at hm
  ·rename_i y hy
   obtain⟨v,h3,h4⟩:=h2.rawRes hy
   refine⟨h2.defers,v,h3,?_⟩
   have hk3:Ok A σ'.backI g' a w':=by
    refine⟨h2.below,h2.hB,h2.F0,h2.Fn,h2.Fb,hk.defers,hk.size,fun t=>?_,h2.blk,h2.Fblk,h2.inj,h2.tok,h2.Ftok,h2.tokblk,h2.toktok,h2.fix,h2.hist⟩
    have h5:=h2.env (t+1000000)
    unfold St.get at h5
    unfold St.backI St.get
    rw [ziP]
    unfold Base.val at h5
    simp only at h5
    rw [if_neg (by omega),if_neg (by omega),Nat.add_sub_cancel] at h5
    exact h5
   exact zR n _ _ _ _ hm _ _ w' (hk3.put o.dst (zcn hd) h4)
  ·cases hm
 cases e with
 | normal=>exact hret h1
 | ret=>exact hret h1
 | exit | goto | panic | outgrown=>exact h1.elim
theorem zjI (k n : Nat) {all : List Oper} {f : FuncId} {o : Oper} {rest : List Oper} {i base : Nat} {s : List Itm} {Q : Exit → St → Prop} {cl : Call} {p : Operand} {cs : List AV} {fn : Func} {c : Code} (ho : o.op = .call cl) (hp : cl.callee = .value p) (hf : σ.eval p = .fn f cs) (hfn : P.funcs[f]? = some fn) (hb : fn.body = some c) (hnm : (fn.name == "runtime.NumGoroutine") = false)
  (hle:(cl.args.toList.map σ.eval++cs).length≤fn.ntmps) (hN:fn.ntmps≤1000000) (hd:zat A.N o=true)
  (h:∀ A':Base P,A'.N=fn.ntmps→(A'.fx=A.fx∧A'.tk0=A.tk0)→zbe P A' c (σ.enterI (cl.args.toList.map σ.eval++cs)) (stk P A' [.off k] (zyN P fn.results.toList fun y σ'=>go P A n (.ops all rest (i+1) base) s (σ'.backI.put o.dst y) Q))):zcy P A (.exe (some f) all o rest i base) s σ Q:=by
 refine ztY k n (fun hen g a w hk=>?_) hfn hb hnm hle hN hd h
 have hpe:=hk.eval p
 rw [hf] at hpe
 obtain⟨vs,hv,hvl,hvs⟩:=hpe.fn_eq
 refine⟨cl.args.toList.map a.eval++vs,?_,by simp [hvl],fun i hi hv=>?_⟩
 ·simp only [execOp,ho,resolve,hp,hv,Deferred.ofValue,Sem.run_bind,Sem.run_pure,Result.andThen_ok,invoke]
  rw [zbc hen]
  have he:#[]++cl.args.map a.eval++vs.toArray=(cl.args.toList.map a.eval++vs).toArray:=by
   apply Array.ext';simp
  rw [he]
 ·rw [List.getElem_append,List.getElem_append]
  simp only [List.length_map]
  by_cases hlt:i<cl.args.toList.length
  ·rw [dif_pos hlt,dif_pos hlt,List.getElem_map,List.getElem_map];exact hk.eval _
  ·rw [dif_neg hlt,dif_neg hlt]
   exact hvs _ _ _
theorem zBN (k n : Nat) {all : List Oper} {f : FuncId} {o : Oper} {rest : List Oper} {i base : Nat} {s : List Itm} {Q : Exit → St → Prop} {cl : Call} {p : Operand} {x : AV} {fn : Func} {c : Code} (ho : o.op = .call cl) (hp : cl.callee = .value p) (hf : σ.eval p = .bnd f x) (hfn : P.funcs[f]? = some fn) (hb : fn.body = some c) (hnm : (fn.name == "runtime.NumGoroutine") = false)
  (hle:(x :: cl.args.toList.map σ.eval).length≤fn.ntmps) (hN:fn.ntmps≤1000000) (hd:zat A.N o=true)
  (h:∀ A':Base P,A'.N=fn.ntmps→(A'.fx=A.fx∧A'.tk0=A.tk0)→zbe P A' c (σ.enterI (x :: cl.args.toList.map σ.eval)) (stk P A' [.off k] (zyN P fn.results.toList fun y σ'=>go P A n (.ops all rest (i+1) base) s (σ'.backI.put o.dst y) Q))):zcy P A (.exe (some f) all o rest i base) s σ Q:=by
 refine ztY k n (fun hen g a w hk=>?_) hfn hb hnm hle hN hd h
 have hpe:=hk.eval p
 rw [hf] at hpe
 obtain⟨v,hv,hx⟩:=hpe.bnd_eq
 refine⟨v :: cl.args.toList.map a.eval,?_,by simp,fun i hi hv=>?_⟩
 ·simp only [execOp,ho,resolve,hp,hv,Deferred.ofValue,Sem.run_bind,Sem.run_pure,Result.andThen_ok,invoke]
  rw [zbc hen]
  have he:#[v]++cl.args.map a.eval++#[]=(v :: cl.args.toList.map a.eval).toArray:=by
   apply Array.ext';simp
  rw [he]
 ·cases i with
  | zero=>exact hx
  | succ i=>simpa using hk.eval _
theorem zBL (me n:Nat) {all:List Oper} {o:Oper} {rest:List Oper} {i base:Nat} {s:List Itm} {Q:Exit→St→Prop} {t e:TypeId} {k st m:Nat} {ps:Array (Nat × Operand)} {rows:List (List D)} {need:Prop} (hg:zcV A.N all σ o=some true) (ho:o.op = .buildSlice t k ps) (h:zJ P σ me o.op=some (.grow me rows,.tok me ⟨st,e,m,none⟩,need)) (hm:σ.ment me=false) (hd:zat A.N o=true)
  (hr:go P A n (.ops all rest (i+1) base) s ((σ.setTok me (some ⟨st,e,0,some rows⟩)).put o.dst (.stk me st 0 0 m)) Q):zcy P A (.ops all (o :: rest) i base) s σ Q:=by
 rw [ho] at h
 simp only [zJ] at h
 split at h
 ·rename_i el ht
  split at h
  ·rename_i z rows' hz hr'
   split at h
   ·rename_i hc
    simp only [Bool.and_eq_true,decide_eq_true_eq,List.all_eq_true] at hc
    obtain⟨⟨⟨⟨hps,hzs⟩,h0⟩,h1⟩,hlim⟩:=hc
    obtain⟨h2,h3,_⟩:=zaQ h
    injection h2 with _ h2
    injection h3 with _ h3
    injection h3 with e1 e2 e3
    subst h2 e1 e2 e3
    obtain⟨f1,f2⟩:=zdQ hps
    rw [f1,f2] at ho
    rw [f2] at hr
    refine zft hg (fun _=>zdn (zpn me ho ht hz hzs h0 (by rw [List.map_map];exact hr') (fun p hp=>?_) (by rw [← f2];exact hlim) (St.free_of hm)) hd (zR n _ _ _ _ hr)) (fun h=>by cases h) fun h=>by cases h
    obtain⟨x,hx,rfl⟩:=List.mem_map.1 hp
    exact⟨List.all_eq_true.2 (h1 x hx).1,(h1 x hx).2⟩
   ·cases h
  ·cases h
 ·cases h
end
section
open Go Go.RowKit
section
variable {P:Program} {A:Base P} {σ:St}
theorem ztX (n:Nat) (ts bs ks:List Nat) (I:St→Prop) {c rest:Code} {s:List Itm} {Q:Exit→St→Prop} (h1:go P A n (.code c) (.inv (fun σ'=>I (σ'.keep ts bs ks)) :: s) σ Q) (h2:∀ σ',I σ'→zbe P A rest σ' (stk P A s Q)):zbe P A (.seq c rest) σ (stk P A s Q):=by
 refine zmS ((zR n _ _ _ _ h1).mono fun e σ' hq=>?_)
 cases e with
 | normal=>exact zyD ts bs ks (h2 _ hq)
 | _=>exact hq
end
end
section
section
open Go Go.RowKit
attribute [go_sem] Int.reduceToNat Int.cast_ofNat_Int Nat.reduceEqDiff Nat.reduceLT Nat.reduceSub Nat.reduceBEq Nat.reduceBNe reduceCtorEq Bool.false_eq_true Int.reduceNeg Int.reduceLE Int.reduceLT
attribute [go_sem ↓] reduceIte
attribute [go_sem] Bool.true_or Bool.or_true
@[go_sem] theorem beqT (b:Bool):(b == true)=b:=by cases b <;> rfl
@[go_sem] theorem beqF (b:Bool):(b == false) = !b:=by cases b <;> rfl
attribute [go_sem] ziH zV Op.operands Call.operands go zcV zoD zat zJ zbk zaM zfy zen zru zrv zgk zaw shifted AV.rows AV.toD zmB zfX Value.toD AV.cells AV.one Value.oneCell' zoI St.eval St.get St.blk St.tok St.put St.setBlk St.setTok St.app zQ St.ment zgn zdC Blk.ment zcm AV.ment zhe zdO zq zbw zgN D.one zja zyc zlE zks zoH
attribute [go_sem] zjx znx zot ziK zlF zCa znn zjw zrc zpr zdf zjG zgV zqE St.enterI St.backI rawAV zno rawRes zyN zpV
attribute [go_sem] znv zhM zjv ziq zfh zbi zjs zjt zqh zcU zkB zwB Blk.lent zGf St.enterM Option.isSome_some Option.isSome_none Option.isNone_some Option.isNone_none
attribute [go_sem] zFB zly zoa St.frz AV.frz zjK zkG zgw Blk.frz zwC zrS zwA
attribute [go_sem] AV.ptr AV.rawOf zfO zqR Tok.n
attribute [go_sem] AV.close zY AV.closed zt fin zme resAV znm zhp zDG St.enter St.keep zlA Value.cells
attribute [go_sem] List.zipIdx_cons List.zipIdx_nil List.map_cons List.map_nil List.take_succ_cons List.take_zero List.take_nil List.drop_succ_cons List.drop_zero List.drop_nil List.length_cons List.length_nil List.getElem?_cons_zero List.getElem?_cons_succ List.all_cons List.all_nil List.cons_append List.nil_append List.append_nil Option.getD_some Option.getD_none Option.map_some Option.map_none Option.bind_some Option.bind_none Bool.and_true Bool.true_and Bool.and_self Bool.or_false Bool.false_or Bool.or_self Bool.not_true Bool.not_false beq_self_eq_true Array.toList_append List.range_zero List.range_succ eq_self List.size_toArray decide_true decide_false Nat.reduceAdd Nat.reduceMul Nat.reduceLeDiff List.toList_toArray List.getElem?_toArray cond_true cond_false and_true true_and implies_true List.set_cons_zero List.set_cons_succ beq_true false_implies forall_const ne_eq not_true_eq_false not_false_eq_true and_false false_and or_true true_or
theorem goC {P:Program} {A:Base P} (n:Nat) {c:Code} {s:List Itm} {σ:St} {Q:Exit→St→Prop} (h:go P A n (.code c) s σ Q):zbe P A c σ (stk P A s Q):=zR n (.code c) s σ Q h
theorem zFA {P:Program} {A:Base P} {n:Nat} {b:Bool} {x y:Code} {s:List Itm} {σ:St} {Q:Exit→St→Prop} (ht:b=true→go P A n (.code x) s σ Q) (hf:b=false→go P A n (.code y) s σ Q):go P A (n+1) (.cond b x y) s σ Q:=by
 cases b
 ·rw [go];exact hf rfl
 ·rw [go];exact ht rfl
theorem zgv {P:Program} {A:Base P} (n:Nat) {all:List Oper} {f:FuncId} {o:Oper} {rest:List Oper} {i base:Nat} {s:List Itm} {σ:St} {Q:Exit→St→Prop} {c:Call} {p:Operand} {cs ys:List AV} {res:AV} (hc:Con P f ys res)
  (ho:o.op = .call c) (hp:c.callee = .value p) (hf:σ.eval p = .fn f cs) (ha:zY (c.args.toList.map σ.eval++cs)=some ys) (hd:zat A.N o=true)
  (hr:go P A n (.ops all rest (i+1) base) s (σ.put o.dst res) Q):zcy P A (.exe (some f) all o rest i base) s σ Q:=zpB ho hp hf ha hc hd (zR n _ _ _ _ hr)
theorem zBP {P:Program} {A:Base P} (n:Nat) {all:List Oper} {f:FuncId} {o:Oper} {rest:List Oper} {i base:Nat} {acc:List RI} {s:List Itm} {σ:St} {Q:Exit→St→Prop} {c:Call} {p:Operand} {cs ys:List AV} {res:AV} (hc:Con P f ys res)
  (ho:o.op = .call c) (hp:c.callee = .value p) (hf:σ.eval p = .fn f cs) (ha:zY (c.args.toList.map σ.eval++cs)=some ys) (hd:zat A.N o=true)
  (hr:go P A n (.dops all rest (i+1) base (acc++[ziH σ o res .none])) s (σ.put o.dst res) Q):zcy P A (.dexe (some f) all o rest i base acc) s σ Q:=fun hg hP=>
 zeh hg (.inr (.inl ⟨rfl,f,c,p,cs,ys,ho,hp,hf,ha,hc⟩)) hd (zR n _ _ _ _ hr hP)
theorem zb {P:Program} {A:Base P} (n:Nat) {all:List Oper} {f:FuncId} {o:Oper} {rest:List Oper} {i base:Nat} {s:List Itm} {σ:St} {Q:Exit→St→Prop} {args:Array Operand} {ats:Array TypeId} {ys:List AV} {res:AV} (hc:Con P f ys res)
  (ho:o.op = .call { callee:=.value (.func f),args:=args,argTypes:=ats }) (ha:zY (args.toList.map σ.eval)=some ys) (hd:zat A.N o=true)
  (hr:go P A n (.ops all rest (i+1) base) s (σ.put o.dst res) Q):zcy P A (.exe (some f) all o rest i base) s σ Q:=zgv n hc ho rfl rfl (by rw [List.append_nil];exact ha) hd hr
theorem zbO {P:Program} {A:Base P} (n:Nat) {all:List Oper} {f:FuncId} {o:Oper} {rest:List Oper} {i base:Nat} {acc:List RI} {s:List Itm} {σ:St} {Q:Exit→St→Prop} {args:Array Operand} {ats:Array TypeId} {ys:List AV} {res:AV} (hc:Con P f ys res)
  (ho:o.op = .call { callee:=.value (.func f),args:=args,argTypes:=ats }) (ha:zY (args.toList.map σ.eval)=some ys) (hd:zat A.N o=true)
  (hr:go P A n (.dops all rest (i+1) base (acc++[ziH σ o res .none])) s (σ.put o.dst res) Q):zcy P A (.dexe (some f) all o rest i base acc) s σ Q:=zBP n hc ho rfl rfl (by rw [List.append_nil];exact ha) hd hr
theorem zon {P:Program} {A:Base P} (n:Nat) {all:List Oper} {f:FuncId} {o:Oper} {rest:List Oper} {i base:Nat} {acc:List RI} {s:List Itm} {σ:St} {Q:Exit→St→Prop} {c:Call} {p m:Operand} {args:List Operand} {ys:List AV} {res:AV} {r:Nat} {tag:Option Nat} {ks ks':List Value} {cs cs':List AV} (hc:zuL P f ys ks cs ks' cs' res) (ho:o.op = .call c) (hp:c.callee = .value p) (hf:σ.eval p = .fn f []) (hargs:c.args.toList=args++[m]) (hm:σ.eval m = .mp r) (hb:σ.blk r=some (.map tag ks cs)) (hcl:zt cs=true)
  (ha:zY (args.map σ.eval)=some ys) (hd:zat A.N o=true) (hr:go P A n (.dops all rest (i+1) base (acc++[ziH σ o res (.blk r (.map tag ks' cs'))])) s ((σ.setBlk r (some (.map tag ks' cs'))).put o.dst res) Q):zcy P A (.dexe (some f) all o rest i base acc) s σ Q:=fun hg hP=>
 zeh hg (.inr (.inr (.inl ⟨f,c,p,m,args,ys,r,tag,ks,cs,ks',cs',rfl,ho,hp,hf,hargs,hm,hb,hcl,ha,hc⟩))) hd (zR n _ _ _ _ hr hP)
theorem zom {P:Program} {A:Base P} (n:Nat) {all:List Oper} {f:FuncId} {o:Oper} {rest:List Oper} {i base:Nat} {acc:List RI} {s:List Itm} {σ:St} {Q:Exit→St→Prop} {c:Call} {p:Operand} {ys:List AV} {st:Nat} {ty:TypeId} {rows:List (List D)} (hc:zuK P f ys st ty rows) (ho:o.op = .call c) (hp:c.callee = .value p) (hf:σ.eval p = .fn f []) (ha:zY (c.args.toList.map σ.eval)=some ys) (hd:zat A.N o=true) (hfr:σ.ment (base+i)=false)
  (hr:go P A n (.dops all rest (i+1) base (acc++[ziH σ o (.grow (base+i) rows) (.tok (base+i) ⟨st,ty,rows.length,none⟩)])) s ((σ.setTok (base+i) (some ⟨st,ty,rows.length,none⟩)).put o.dst (.grow (base+i) rows)) Q):zcy P A (.dexe (some f) all o rest i base acc) s σ Q:=fun hg hP=>
 zeh hg (.inr (.inr (.inr (.inl ⟨f,c,p,ys,st,ty,rows,rfl,rfl,ho,hp,hf,ha,hc,hfr⟩)))) hd (zR n _ _ _ _ hr hP)
theorem zU (l:List D):zt (l.map .d)=true:=by
 induction l with
 | nil=>rfl
 | cons x l ih=>simp only [List.map_cons,zt,ih];rfl
end
section
open Go Go.ChangeShapes Go.WideShapes Go.Deep Go.RowKit
inductive Typed (P:Program):TypeId→List D→Prop
 | int {t:TypeId} {k:IntKind} (n:Int) (h:P.underlying t=some (.int k)) (hw:(Lit.int k n).wf=true):Typed P t [.raw (.int k n)]
 | str {t:TypeId} (s:ByteArray) (h:P.underlying t=some .string) (hs:s.size≤Go.maxLen):Typed P t [.raw (.string s)]
 | bool {t:TypeId} (b:Bool) (h:P.underlying t=some .bool):Typed P t [.raw (.bool b)]
 | struct {t:TypeId} (fs:Array Field) (parts:List (List D)) (h:P.underlying t=some (.struct fs)) (hl:parts.length=fs.toList.length) (hp:∀ i (hi:i<fs.toList.length) (hi':i<parts.length),Typed P fs.toList[i].type parts[i]):Typed P t parts.flatten
 | slice {t e:TypeId} (rows:List (List D)) (h:P.underlying t=some (.slice e)) (hr:∀ i (hi:i<rows.length),Typed P e rows[i]):Typed P t [.sl rows]
mutual
def D.size:D→Nat
 | .raw v=>match v with
  | .string s=>s.size+1
  | _=>1
 | .sl rows=>zfr rows+1
def zaR:List D→Nat
 | []=>0
 | d :: l=>d.size+zaR l
def zfr:List (List D)→Nat
 | []=>0
 | r :: rs=>zaR r+zfr rs
end
theorem zji:∀ a b:List D,zaR (a++b)=zaR a+zaR b
 | [],b=>by simp [zaR]
 | x :: a,b=>by simp [zaR,zji a b];omega
theorem zej {P:Program} {t:TypeId} {k:IntKind} {ds:List D} (h:Typed P t ds) (ht:P.underlying t=some (.int k)):∃ n,ds=[.raw (.int k n)]∧(Lit.int k n).wf=true:=by
 cases h with
 | int n h hw=>rw [ht] at h;cases h;exact⟨n,rfl,hw⟩
 | str s h=>rw [ht] at h;cases h
 | bool b h=>rw [ht] at h;cases h
 | struct fs parts h=>rw [ht] at h;cases h
 | slice rows h=>rw [ht] at h;cases h
theorem zbV {P:Program} {t:TypeId} {ds:List D} (h:Typed P t ds) (ht:P.underlying t=some .string):∃ s,ds=[.raw (.string s)]∧s.size≤Go.maxLen:=by
 cases h with
 | int n h hw=>rw [ht] at h;cases h
 | str s h hs=>exact⟨s,rfl,hs⟩
 | bool b h=>rw [ht] at h;cases h
 | struct fs parts h=>rw [ht] at h;cases h
 | slice rows h=>rw [ht] at h;cases h
theorem zer {P:Program} {t:TypeId} {ds:List D} (h:Typed P t ds) (ht:P.underlying t=some .bool):∃ b,ds=[.raw (.bool b)]:=by
 cases h with
 | int n h hw=>rw [ht] at h;cases h
 | str s h=>rw [ht] at h;cases h
 | bool b h=>exact⟨b,rfl⟩
 | struct fs parts h=>rw [ht] at h;cases h
 | slice rows h=>rw [ht] at h;cases h
theorem zcg {P:Program} {t e:TypeId} {ds:List D} (h:Typed P t ds) (ht:P.underlying t=some (.slice e)):∃ rows,ds=[.sl rows]∧∀ i (hi:i<rows.length),Typed P e rows[i]:=by
 cases h with
 | int n h hw=>rw [ht] at h;cases h
 | str s h=>rw [ht] at h;cases h
 | bool b h=>rw [ht] at h;cases h
 | struct fs parts h=>rw [ht] at h;cases h
 | slice rows h hr=>rw [ht] at h;cases h;exact⟨rows,rfl,hr⟩
theorem zbJ {P:Program} {t:TypeId} {fs:Array Field} {ds:List D} (h:Typed P t ds) (ht:P.underlying t=some (.struct fs)):∃ parts:List (List D),ds=parts.flatten∧parts.length=fs.toList.length∧∀ i (hi:i<fs.toList.length) (hi':i<parts.length),Typed P fs.toList[i].type parts[i]:=by
 cases h with
 | int n h hw=>rw [ht] at h;cases h
 | str s h=>rw [ht] at h;cases h
 | bool b h=>rw [ht] at h;cases h
 | struct fs parts h hl hp=>rw [ht] at h;cases h;exact⟨parts,rfl,hl,hp⟩
 | slice rows h=>rw [ht] at h;cases h
def zsm (R:D→Value→Prop):List D→List Value→Prop
 | [],[]=>True
 | d :: ds,c :: cs=>R d c∧zsm R ds cs
 | _,_=>False
theorem zlL {R:D→Value→Prop}:∀ {a b:List D} {c d:List Value},zsm R a c→zsm R b d→zsm R (a++b) (c++d)
 | [],_,[],_,_,h=>h
 | [],_,_ :: _,_,h,_=>h.elim
 | _ :: _,_,[],_,h,_=>h.elim
 | _ :: _,_,_ :: _,_,h,h'=>⟨h.1,zlL h.2 h'⟩
theorem zhZ {R:D→Value→Prop}:∀ {a:List D} {c:List Value},zsm R a c→a.length=c.length∧∀ i (hi:i<a.length) (hv:i<c.length),R a[i] c[i]
 | [],[],_=>⟨rfl,fun i hi=>absurd hi (Nat.not_lt_zero _)⟩
 | [],_ :: _,h=>h.elim
 | _ :: _,[],h=>h.elim
 | x :: a,y :: c,h=>by
  obtain⟨h1,h2⟩:=zhZ h.2
  refine⟨by simp [h1],fun i hi hv=>?_⟩
  cases i with
  | zero=>exact h.1
  | succ i=>exact h2 i (by simpa using hi) (by simpa using hv)
def zju (P:Program):Nat→List Field→Option Nat
 | n,[]=>some n
 | n,f :: fs=>if f.offset=n then zju P (n+P.cellsOf f.type) fs else none
def zmn (P:Program) (tys:List TypeId) (t:TypeId):Bool:=
 match P.underlying t with
 | some (.int _)=>true
 | some .string=>true
 | some .bool=>true
 | some (.slice e)=>tys.contains e && decide (P.cellsOf e≠0)
 | some (.struct fs)=>decide (zju P 0 fs.toList=some (P.cellsOf t)) && fs.toList.all (fun f=>tys.contains f.type)
 | _=>false
theorem blkOne {H:Type} (d:DataW H):1≤Rows.uptoBulk d:=by
 cases d with
 | lit l=>cases l <;> simp [Rows.uptoBulk]
 | nil=>simp [Rows.uptoBulk]
 | ptr d=>simp [Rows.uptoBulk]
 | slice elems spare=>simp [Rows.uptoBulk]
 | agg parts=>simp [Rows.uptoBulk]
 | iface t d=>simp [Rows.uptoBulk]
 | map entries=>simp [Rows.uptoBulk]
 | held h=>simp [Rows.uptoBulk]
theorem zyb {H:Type} {d:DataW H} {l:List (DataW H)} (h:d ∈ l):Rows.uptoBulk d≤Rows.uptoBulkAll l:=by
 induction l with
 | nil=>cases h
 | cons x r ih=>
  simp only [Rows.uptoBulkAll]
  cases List.mem_cons.1 h with
  | inl e=>subst e;omega
  | inr e=>have:=ih e;omega
theorem zya {H:Type} (f:Nat→List D) (E:Nat→DataW H):∀ l:List Nat,(∀ i ∈ l,zaR (f i)≤Rows.uptoBulk (E i))→zfr (l.map f)≤Rows.uptoBulkAll (l.map E)
 | [],_=>by simp [zfr]
 | a :: r,h=>by
  have h1:=h a (by simp)
  have h2:=zya f E r (fun i hi=>h i (by simp [hi]))
  simp only [List.map_cons,zfr,Rows.uptoBulkAll];omega
section
variable {H:Type} {enc:TypeId × Value→H} {P:Program} {W:World} {base:Nat} {spare:Nat→Bool} {held:Bool}
abbrev below (W:World):Nat→Nat→Prop:=fun b _=>b<W.heap.size
def zGb (P:Program) (W:World) (t:TypeId) (cs:List Value) (n:Nat):Prop:=∃ ds:List D,Typed P t ds∧zsm (Reads W (below W)) ds cs∧zaR ds≤n
theorem zvV {tys:List TypeId} (hall:tys.all (zmn P tys)=true) (N:Nat):∀ (fuel:Nat) (t:TypeId) (cs:List Value) (x:DataW H × List MemPlace),Rows.uptoBulk x.1≤N→tys.contains t=true→DataW.trod enc P W base spare held fuel t cs=some x→(∀ p ∈ x.2,p.block<W.heap.size) →
  zGb P W t cs (Rows.uptoBulk x.1):=by
 induction N with
 | zero=>intro fuel t cs x hN;have:=blkOne x.1;omega
 | succ N ih=>
  intro fuel t cs x hN ht h hlt
  have hp:zmn P tys t=true:=List.all_eq_true.1 hall t (by simpa using ht)
  unfold zmn at hp
  split at hp
  ·rename_i k hk
   obtain⟨n,rfl,hx,hw⟩:=DataW.trod_int hk h
   exact⟨_,.int n hk hw,⟨.raw _,trivial⟩,by simpa [zaR,D.size] using blkOne x.1⟩
  ·rename_i hk
   obtain⟨s,rfl,rfl,hs⟩:=DataW.trod_string hk h
   refine⟨_,.str s hk hs,⟨.raw _,trivial⟩,?_⟩
   have:s.data.toList.length=s.size:=rfl
   simp only [zaR,D.size,Rows.uptoBulk,this]
   omega
  ·rename_i hk
   obtain⟨b,rfl,hx⟩:=DataW.trod_bool hk h
   exact⟨_,.bool b hk,⟨.raw _,trivial⟩,by simpa [zaR,D.size] using blkOne x.1⟩
  ·rename_i e hk
   simp only [Bool.and_eq_true,decide_eq_true_eq] at hp
   obtain⟨he,h0⟩:=hp
   rcases open_slice hk h with⟨rfl,rfl⟩ | ⟨a,len,cap,m,n',E,Pl,rfl,_,hlc,hcm,hm,rfl,hi⟩
   ·exact⟨_,.slice [] hk (fun i hi=>absurd hi (Nat.not_lt_zero _)),⟨.nil _ _,trivial⟩,by simp [zaR,D.size,zfr,Rows.uptoBulk]⟩
   ·have hlm:len≤m:=by rw [hm];split <;> omega
    have hbs:Rows.uptoBulkAll ((List.range len).map E)+1≤Rows.uptoBulk (DataW.slice ((List.range len).map E) ((List.range (m - len)).map fun j=>E (len+j))):=by simp only [Rows.uptoBulk];omega
    have hbx:Rows.uptoBulk (DataW.slice ((List.range len).map E) ((List.range (m - len)).map fun j=>E (len+j)))≤N+1:=hN
    have ex:∀ i,∃ r:List D,i<len→(Typed P e r∧zaR r≤Rows.uptoBulk (E i)∧∃ cs',W.cells? base (a.add (i * P.cellsOf e)) (P.cellsOf e)=some cs'∧zsm (Reads W (below W)) r cs'):=by
     intro i
     by_cases hil:i<len
     ·obtain⟨cs',hc,hti⟩:=hi i (by omega)
      have hbi:=zyb (d:=E i) (l:=(List.range len).map E) (List.mem_map.2 ⟨i,List.mem_range.2 hil,rfl⟩)
      obtain⟨r,h1,h2,h3⟩:=ih n' e cs' (E i,Pl i) (by show Rows.uptoBulk (E i)≤N;omega) he hti (fun p hp=>hlt p (List.mem_append.2 (.inr (List.mem_flatMap.2 ⟨i,List.mem_range.2 (by omega),hp⟩))))
      exact⟨r,fun _=>⟨h1,h3,cs',hc,h2⟩⟩
     ·exact⟨[],fun h=>absurd h hil⟩
    obtain⟨f,hf⟩:=Classical.axiomOfChoice ex
    have hsz:=zya f E (List.range len) (fun i hi=>(hf i (List.mem_range.1 hi)).2.1)
    have hget:∀ i (hi:i<((List.range len).map f).length),((List.range len).map f)[i]=f i:=fun i hi=>by simp
    refine⟨_,.slice ((List.range len).map f) hk (fun i hi=>by rw [hget i hi];exact(hf i (by simpa using hi)).1),⟨?_,trivial⟩,?_⟩
    ·by_cases hp:0<len
     ·obtain⟨b,off,spot⟩:=a
      have cell0:∀ i,i<len→∀ j (hj:j<(f i).length),∃ u,W.cell? (((⟨b,off,spot⟩:Addr).add (i * P.cellsOf e)).add j)=some u∧Reads W (below W) (f i)[j] u:=fun i hi j hj=>by
       obtain⟨_,_,cs',hc,hr⟩:=hf i hi
       obtain⟨_,hl,hat⟩:=World.cells?_some hc
       obtain⟨h1,h2⟩:=zhZ hr
       have hj':j<cs'.length:=by omega
       exact⟨cs'[j],by rw [hat j (by omega),List.getElem?_eq_getElem hj'],h2 j hj hj'⟩
      have hfl:∀ i,i<len→(f i).length=P.cellsOf e:=fun i hi=>by
       obtain⟨_,_,cs',hc,hr⟩:=hf i hi
       obtain⟨_,hl,_⟩:=World.cells?_some hc
       rw [(zhZ hr).1,hl]
      obtain⟨u0,hu0,_⟩:=cell0 0 hp 0 (by rw [hfl 0 hp];omega)
      have hspot:spot=none:=by simpa [Addr.add] using World.cell?_spot hu0
      subst hspot
      have hblt:b<W.heap.size:=by
       have:MemPlace.cell b (off+0) ∈ MemPlace.row ⟨b,off,none⟩ (m * P.cellsOf e)++(List.range m).flatMap Pl:=by
        refine List.mem_append.2 (.inl ?_)
        unfold MemPlace.row
        exact List.mem_map.2 ⟨0,List.mem_range.2 (Nat.mul_pos (by omega) (by omega)),rfl⟩
       exact hlt _ this
      have hlen:((List.range len).map f).length=len:=by simp
      have key:Reads W (below W) (.sl ((List.range len).map f)) (.slice (some ⟨b,off,none⟩) ((List.range len).map f).length cap):=by
       refine Reads.mk (st:=P.cellsOf e) (by omega) (fun i hi=>by rw [hget i hi];exact hfl i (by simpa using hi)) fun i hi j hj=>?_
       have hi':i<len:=by simpa using hi
       have hj':j<(f i).length:=by rw [hget i hi] at hj;exact hj
       obtain⟨u,hu,hr⟩:=cell0 i hi' j hj'
       rw [Go.WideShapes.add_plain,Go.WideShapes.add_plain] at hu
       refine⟨hblt,u,hu,?_⟩
       have:((List.range len).map f)[i][j]=(f i)[j]:=by simp
       rw [this]
       exact hr
      rw [hlen] at key
      exact key
     ·obtain rfl:len=0:=by omega
      exact .nil _ _
    ·simp only [zaR,D.size]
     show zfr ((List.range len).map f)+1+0≤Rows.uptoBulk (DataW.slice ((List.range len).map E) ((List.range (m - len)).map fun j=>E (len+j)))
     omega
  ·rename_i fs hk
   simp only [Bool.and_eq_true,decide_eq_true_eq] at hp
   obtain⟨hpk,hfs⟩:=hp
   obtain⟨xs,n,_,hx,hlen,hxl,hf⟩:=DataW.trod_struct hk h
   subst hx
   have step:∀ (fl:List Field) (ys:List (DataW H × List MemPlace)) (k:Nat),zju P k fl=some (P.cellsOf t)→ys.length=fl.length→(∀ y ∈ ys,y ∈ xs)→(∀ f ∈ fl,tys.contains f.type=true)→(∀ (i:Nat) (f:Field),fl[i]? = some f→DataW.trod enc P W base spare held n f.type ((cs.drop f.offset).take (P.cellsOf f.type))=ys[i]?) →
     ∃ parts:List (List D),parts.length=fl.length∧(∀ i (hi:i<fl.length) (hi':i<parts.length),Typed P fl[i].type parts[i])∧zsm (Reads W (below W)) parts.flatten (cs.drop k)∧zaR parts.flatten≤Rows.uptoBulkAll (ys.map (·.1)):=by
    intro fl
    induction fl with
    | nil=>
     intro ys k hk' hl _ _ _
     obtain rfl:ys=[]:=List.eq_nil_of_length_eq_zero hl
     simp only [zju,Option.some.injEq] at hk'
     refine⟨[],rfl,fun i hi=>absurd hi (Nat.not_lt_zero _),?_,by simp [zaR,Rows.uptoBulkAll]⟩
     rw [List.drop_of_length_le (by omega)]
     trivial
    | cons f fl ih2=>
     intro ys k hk' hl hys htys hf'
     match ys,hl with
     | y :: ys,hl=>
      unfold zju at hk'
      split at hk'
      ·rename_i hoff
       obtain⟨parts,p1,p2,p3,p4⟩:=ih2 ys _ hk' (by simpa using hl) (fun z hz=>hys z (by simp [hz])) (fun g hg=>htys g (by simp [hg])) (fun i g hg=>by have:=hf' (i+1) g (by simpa using hg);simpa using this)
       have ht0:DataW.trod enc P W base spare held n f.type ((cs.drop f.offset).take (P.cellsOf f.type))=some y:=by simpa using hf' 0 f rfl
       have hb0:=zyb (d:=y.1) (l:=xs.map (·.1)) (List.mem_map.2 ⟨y,hys y (by simp),rfl⟩)
       obtain⟨r,h1,h2,h3⟩:=ih n f.type _ y (by simp only [Rows.uptoBulk] at hN;omega) (htys f (by simp)) ht0 (fun p hp=>hlt p (List.mem_flatMap.2 ⟨y,hys y (by simp),hp⟩))
       refine⟨r :: parts,by simp [p1],fun i hi hi'=>?_,?_,?_⟩
       ·cases i with
        | zero=>exact h1
        | succ i=>exact p2 i (by simpa using hi) (by simpa using hi')
       ·rw [List.flatten_cons]
        have e:cs.drop k=(cs.drop f.offset).take (P.cellsOf f.type)++cs.drop (k+P.cellsOf f.type):=by
         rw [hoff,← List.drop_drop,List.take_append_drop]
        rw [e]
        exact zlL h2 p3
       ·rw [List.flatten_cons,zji]
        simp only [List.map_cons,Rows.uptoBulkAll]
        omega
      ·cases hk'
   obtain⟨parts,p1,p2,p3,p4⟩:=step fs.toList xs 0 hpk (by simpa using hxl) (fun _ h=>h) (fun f hf=>List.all_eq_true.1 hfs f hf) (fun i f hf'=>hf i f (by simpa using hf'))
   refine⟨_,.struct fs parts hk p1 p2,by simpa using p3,?_⟩
   simp only [Rows.uptoBulk]
   omega
  ·cases hp
end
theorem zDb {W:World} {ds:List D} {cs:List Value} (h:zsm (Reads W (below W)) ds cs):zcw W (below W) (.agg (ds.map .d)) (.agg cs.toArray):=by
 obtain⟨h1,h2⟩:=zhZ h
 refine .agg _ _ (by simp [h1]) fun i hi hv=>?_
 rw [List.getElem_map]
 exact .d (h2 i (by simpa using hi) hv)
end
end
end Go.Proofs.YtpnjjmcimjlfkaaGreatDoor
