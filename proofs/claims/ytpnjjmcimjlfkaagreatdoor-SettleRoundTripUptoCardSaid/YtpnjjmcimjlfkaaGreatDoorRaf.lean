/- Texts of this proof, part 6: what the proof uses of them. -/
import Derived.Test.YtpnjjmcimjlfkaaGreatDoorRae
import Derived.Test.YtpnjjmcimjlfkaaGreatDoorProg
set_option maxRecDepth 100000
set_option maxHeartbeats 64000000
namespace Go.Proofs.YtpnjjmcimjlfkaaGreatDoor
section
open Go Go.RowKit
theorem zDK:Tryz.prog.cellsOf 1=1:=by kernel_rfl
theorem zEF:zx Tryz.prog 1=some (.nilFunc):=by kernel_rfl
theorem zGM:zaC Tryz.prog 1=some false:=by kernel_rfl
theorem zDJ:Tryz.prog.cellsOf 3=1:=by kernel_rfl
theorem zEE:zx Tryz.prog 3=some (.int .i64 0):=by kernel_rfl
theorem zGL:zaC Tryz.prog 3=some false:=by kernel_rfl
theorem zDI:Tryz.prog.cellsOf 4=1:=by kernel_rfl
theorem zED:zx Tryz.prog 4=some (.bool false):=by kernel_rfl
theorem zGK:zaC Tryz.prog 4=some false:=by kernel_rfl
theorem zDH:Tryz.prog.cellsOf 5=1:=by kernel_rfl
theorem zDN:Tryz.prog.bytesOf 5=1:=by kernel_rfl
theorem zEC:zx Tryz.prog 5=some (.int .u8 0):=by kernel_rfl
theorem zDG:Tryz.prog.cellsOf 9=1:=by kernel_rfl
theorem zDM:Tryz.prog.bytesOf 9=16:=by kernel_rfl
theorem zEB:zx Tryz.prog 9=some (.string ⟨#[]⟩):=by kernel_rfl
theorem zGJ:zaC Tryz.prog 9=some false:=by kernel_rfl
theorem zBE:Tryz.prog.cellsOf 22=1:=by kernel_rfl
theorem zFF:zaC Tryz.prog 22=some false:=by kernel_rfl
theorem zBD:Tryz.prog.cellsOf 23=1:=by kernel_rfl
theorem zFE:zaC Tryz.prog 23=some false:=by kernel_rfl
theorem zBC:Tryz.prog.cellsOf 24=1:=by kernel_rfl
theorem zCj:zx Tryz.prog 24=some (.slice none 0 0):=by kernel_rfl
theorem zFD:zaC Tryz.prog 24=some false:=by kernel_rfl
theorem zBB:Tryz.prog.cellsOf 26=3:=by kernel_rfl
theorem zCi:zx Tryz.prog 26=some (.agg #[.slice none 0 0,.slice none 0 0,.slice none 0 0]):=by kernel_rfl
theorem zFC:zaC Tryz.prog 26=some true:=by kernel_rfl
theorem zBA:Tryz.prog.cellsOf 39=1:=by kernel_rfl
theorem zCh:zx Tryz.prog 39=some (.slice none 0 0):=by kernel_rfl
theorem zFB:zaC Tryz.prog 39=some false:=by kernel_rfl
theorem zBz:Tryz.prog.cellsOf 40=1:=by kernel_rfl
theorem zFA:zaC Tryz.prog 40=some false:=by kernel_rfl
theorem zBy:Tryz.prog.cellsOf 42=2:=by kernel_rfl
theorem zBL:Tryz.prog.bytesOf 42=16:=by kernel_rfl
theorem zCg:zx Tryz.prog 42=some (.agg #[.int .u64 0,.int .u64 0]):=by kernel_rfl
theorem zFz:zaC Tryz.prog 42=some true:=by kernel_rfl
theorem zBx:Tryz.prog.cellsOf 53=1:=by kernel_rfl
theorem zFy:zaC Tryz.prog 53=some false:=by kernel_rfl
theorem zBw:Tryz.prog.cellsOf 54=1:=by kernel_rfl
theorem zFx:zaC Tryz.prog 54=some false:=by kernel_rfl
theorem zBv:Tryz.prog.cellsOf 56=3:=by kernel_rfl
theorem zBK:Tryz.prog.bytesOf 56=64:=by kernel_rfl
theorem zCf:zx Tryz.prog 56=some (.agg #[.string ⟨#[]⟩,.slice none 0 0,.slice none 0 0]):=by kernel_rfl
theorem zFw:zaC Tryz.prog 56=some true:=by kernel_rfl
theorem zBu:Tryz.prog.cellsOf 58=7:=by kernel_rfl
theorem zBJ:Tryz.prog.bytesOf 58=72:=by kernel_rfl
theorem zCe:zx Tryz.prog 58=some (.agg #[.string ⟨#[]⟩,.bool false,.bool false,.bool false,.string ⟨#[]⟩,.string ⟨#[]⟩,.string ⟨#[]⟩]):=by kernel_rfl
theorem zFv:zaC Tryz.prog 58=some true:=by kernel_rfl
theorem zBt:Tryz.prog.cellsOf 62=2:=by kernel_rfl
theorem zBI:Tryz.prog.bytesOf 62=32:=by kernel_rfl
theorem zCd:zx Tryz.prog 62=some (.agg #[.string ⟨#[]⟩,.string ⟨#[]⟩]):=by kernel_rfl
theorem zFu:zaC Tryz.prog 62=some true:=by kernel_rfl
theorem zBs:Tryz.prog.cellsOf 82=1:=by kernel_rfl
theorem zFt:zaC Tryz.prog 82=some false:=by kernel_rfl
theorem zBr:Tryz.prog.cellsOf 83=1:=by kernel_rfl
theorem zFs:zaC Tryz.prog 83=some false:=by kernel_rfl
theorem zBq:Tryz.prog.cellsOf 85=9:=by kernel_rfl
theorem zCc:zx Tryz.prog 85=some (.agg #[.int .i64 0,.string ⟨#[]⟩,.slice none 0 0,.int .u64 0,.int .u64 0,.slice none 0 0,.string ⟨#[]⟩,.int .i64 0,.string ⟨#[]⟩]):=by kernel_rfl
theorem zFr:zaC Tryz.prog 85=some true:=by kernel_rfl
theorem zBp:Tryz.prog.cellsOf 93=3:=by kernel_rfl
theorem zBH:Tryz.prog.bytesOf 93=32:=by kernel_rfl
theorem zCb:zx Tryz.prog 93=some (.agg #[.int .u64 0,.int .u64 0,.string ⟨#[]⟩]):=by kernel_rfl
theorem zFq:zaC Tryz.prog 93=some true:=by kernel_rfl
theorem zzd:zx Tryz.prog 101=some (.agg #[.slice none 0 0,.slice none 0 0]):=by kernel_rfl
theorem zyO:Tryz.prog.cellsOf 103=1:=by kernel_rfl
theorem zEc:zaC Tryz.prog 103=some false:=by kernel_rfl
theorem zyN:Tryz.prog.cellsOf 105=6:=by kernel_rfl
theorem zyQ:Tryz.prog.bytesOf 105=80:=by kernel_rfl
theorem zzc:zx Tryz.prog 105=some (.agg #[.int .i64 0,.string ⟨#[]⟩,.string ⟨#[]⟩,.int .i64 0,.int .i64 0,.slice none 0 0]):=by kernel_rfl
theorem zEb:zaC Tryz.prog 105=some true:=by kernel_rfl
theorem zyM:Tryz.prog.cellsOf 107=11:=by kernel_rfl
theorem zrw:zx Tryz.prog 107=some (.agg #[.int .i64 0,.int .i64 0,.bool false,.slice none 0 0,.bool false,.int .i64 0,.string ⟨#[]⟩,.string ⟨#[]⟩,.int .i64 0,.int .i64 0,.slice none 0 0]):=by kernel_rfl
theorem zEa:zaC Tryz.prog 107=some true:=by kernel_rfl
theorem zDZ:zaC Tryz.prog 142=some false:=by kernel_rfl
theorem zyL:Tryz.prog.cellsOf 143=1:=by kernel_rfl
theorem zDY:zaC Tryz.prog 143=some false:=by kernel_rfl
theorem zyK:Tryz.prog.cellsOf 144=1:=by kernel_rfl
theorem zDX:zaC Tryz.prog 144=some false:=by kernel_rfl
theorem zyJ:Tryz.prog.cellsOf 146=2:=by kernel_rfl
theorem zzb:zx Tryz.prog 148=some (.agg #[.bool false,.pointer none,.slice none 0 0,.string ⟨#[]⟩,.bool false]):=by kernel_rfl
theorem zDW:zaC Tryz.prog 171=some false:=by kernel_rfl
theorem zza:zx Tryz.prog 196=some (.agg #[.string ⟨#[]⟩,.bool false]):=by kernel_rfl
theorem zyI:Tryz.prog.cellsOf 199=4:=by kernel_rfl
theorem zyP:Tryz.prog.bytesOf 199=40:=by kernel_rfl
theorem zyZ:zx Tryz.prog 199=some (.agg #[.string ⟨#[]⟩,.bool false,.int .u64 0,.int .u64 0]):=by kernel_rfl
theorem zDV:zaC Tryz.prog 199=some true:=by kernel_rfl
theorem zyY:zx Tryz.prog 202=some (.agg #[.slice none 0 0,.bool false]):=by kernel_rfl
theorem zyX:zx Tryz.prog 229=some (.agg #[.string ⟨#[]⟩,.bool false]):=by kernel_rfl
theorem zyH:Tryz.prog.cellsOf 271=1:=by kernel_rfl
theorem zyW:zx Tryz.prog 271=some (.pointer none):=by kernel_rfl
theorem zDU:zaC Tryz.prog 271=some false:=by kernel_rfl
theorem zyG:Tryz.prog.cellsOf 279=1:=by kernel_rfl
theorem zyV:zx Tryz.prog 279=some (.pointer none):=by kernel_rfl
theorem zDT:zaC Tryz.prog 279=some false:=by kernel_rfl
theorem zDS:zaC Tryz.prog 310=some false:=by kernel_rfl
theorem zDR:zaC Tryz.prog 312=some false:=by kernel_rfl
theorem mixed:Tryz.prog.follows .mixedOrders=true:=by kernel_rfl
attribute [go_sem] zEF zDK zGM Tryz.underlying1 Tryz.underlying2 zEE zDJ zGL Tryz.underlying3 zED zDI zGK Tryz.underlying4 zEC zDH zDN Tryz.underlying5 Tryz.underlying6 Tryz.underlying7 Tryz.underlying8 zEB zDG zDM zGJ Tryz.underlying9 Tryz.underlying10 Tryz.underlying11 Tryz.underlying12 Tryz.underlying13 Tryz.underlying14 Tryz.underlying15 Tryz.underlying16 Tryz.underlying17 Tryz.underlying18 Tryz.underlying19 Tryz.underlying20 Tryz.underlying21 zBE zFF Tryz.underlying22 zBD zFE Tryz.underlying23 zCj zBC zFD Tryz.underlying24 Tryz.underlying25 zCi zBB zFC Tryz.underlying26 Tryz.underlying27 Tryz.underlying28 Tryz.underlying29 Tryz.underlying30 Tryz.underlying31 Tryz.underlying32 Tryz.underlying33 Tryz.underlying35 Tryz.underlying36 Tryz.underlying37 Tryz.underlying38 zCh zBA zFB Tryz.underlying39 zBz zFA Tryz.underlying40 Tryz.underlying41 zCg zBy zBL zFz Tryz.underlying42 Tryz.underlying43 Tryz.underlying45 Tryz.underlying46 Tryz.underlying47 Tryz.underlying48 Tryz.underlying49 Tryz.underlying50 Tryz.underlying51 Tryz.underlying52 zBx zFy Tryz.underlying53 zBw zFx Tryz.underlying54 Tryz.underlying55 zCf zBv zBK zFw Tryz.underlying56 Tryz.underlying57 zCe zBu zBJ zFv Tryz.underlying58 Tryz.underlying59 Tryz.underlying60 Tryz.underlying61 zCd zBt zBI zFu Tryz.underlying62 Tryz.underlying63 Tryz.underlying64 Tryz.underlying65 Tryz.underlying66 Tryz.underlying67 Tryz.underlying68 Tryz.underlying70 Tryz.underlying71 Tryz.underlying72 Tryz.underlying73 Tryz.underlying74 Tryz.underlying76 Tryz.underlying77 Tryz.underlying78 Tryz.underlying79 Tryz.underlying80 Tryz.underlying81 zBs zFt Tryz.underlying82 zBr zFs Tryz.underlying83 Tryz.underlying84 zCc zBq zFr Tryz.underlying85 Tryz.underlying86 Tryz.underlying88 Tryz.underlying90 Tryz.underlying91 Tryz.underlying92 zCb zBp zBH zFq Tryz.underlying93 Tryz.underlying94 Tryz.underlying95 Tryz.underlying96 Tryz.underlying97 Tryz.underlying98 Tryz.underlying99 Tryz.underlying100 zzd Tryz.underlying101 Tryz.underlying102 zyO zEc Tryz.underlying103 Tryz.underlying104 zzc zyN zyQ zEb Tryz.underlying105 Tryz.underlying106 zrw zyM zEa Tryz.underlying107 Tryz.underlying108 Tryz.underlying109 Tryz.underlying110 Tryz.underlying111 Tryz.underlying113 Tryz.underlying114 Tryz.underlying115 Tryz.underlying116 Tryz.underlying117 Tryz.underlying118 Tryz.underlying119 Tryz.underlying120 Tryz.underlying121 Tryz.underlying122 Tryz.underlying123 Tryz.underlying124 Tryz.underlying125 Tryz.underlying126 Tryz.underlying127 Tryz.underlying128 Tryz.underlying129 Tryz.underlying130 Tryz.underlying131 Tryz.underlying133 Tryz.underlying134 Tryz.underlying135 Tryz.underlying136 Tryz.underlying137 Tryz.underlying139 Tryz.underlying141 zDZ Tryz.underlying142 zyL zDY Tryz.underlying143 zyK zDX Tryz.underlying144 Tryz.underlying145 zyJ Tryz.underlying146 Tryz.underlying147 zzb Tryz.underlying148 Tryz.underlying149 Tryz.underlying150 Tryz.underlying151 Tryz.underlying152 Tryz.underlying153 Tryz.underlying154 Tryz.underlying155 Tryz.underlying156 Tryz.underlying157 Tryz.underlying158 Tryz.underlying159 Tryz.underlying160 Tryz.underlying162 Tryz.underlying164 Tryz.underlying166 Tryz.underlying168 Tryz.underlying169 Tryz.underlying170 zDW Tryz.underlying171 Tryz.underlying172 Tryz.underlying173 Tryz.underlying174 Tryz.underlying175 Tryz.underlying176 Tryz.underlying177 Tryz.underlying178 Tryz.underlying179 Tryz.underlying180 Tryz.underlying181 Tryz.underlying182 Tryz.underlying183 Tryz.underlying184 Tryz.underlying186 Tryz.underlying187 Tryz.underlying188 Tryz.underlying189 Tryz.underlying190 Tryz.underlying192 Tryz.underlying193 Tryz.underlying194 Tryz.underlying195 zza Tryz.underlying196 Tryz.underlying197 Tryz.underlying198 zyZ zyI zyP zDV Tryz.underlying199 Tryz.underlying200 Tryz.underlying201 zyY Tryz.underlying202 Tryz.underlying203 Tryz.underlying204 Tryz.underlying205 Tryz.underlying206 Tryz.underlying207 Tryz.underlying208 Tryz.underlying209 Tryz.underlying210 Tryz.underlying211 Tryz.underlying212 Tryz.underlying213 Tryz.underlying214 Tryz.underlying215 Tryz.underlying216 Tryz.underlying217 Tryz.underlying218 Tryz.underlying219 Tryz.underlying220 Tryz.underlying221 Tryz.underlying222 Tryz.underlying223 Tryz.underlying224 Tryz.underlying225 Tryz.underlying226 Tryz.underlying227 Tryz.underlying228 zyX Tryz.underlying229 Tryz.underlying230 Tryz.underlying231 Tryz.underlying232 Tryz.underlying234 Tryz.underlying236 Tryz.underlying238 Tryz.underlying240 Tryz.underlying242 Tryz.underlying243 Tryz.underlying244 Tryz.underlying245 Tryz.underlying246 Tryz.underlying247 Tryz.underlying248 Tryz.underlying249 Tryz.underlying250 Tryz.underlying251 Tryz.underlying252 Tryz.underlying253 Tryz.underlying254 Tryz.underlying255 Tryz.underlying256 Tryz.underlying257 Tryz.underlying258 Tryz.underlying259 Tryz.underlying261 Tryz.underlying262 Tryz.underlying263 Tryz.underlying264 Tryz.underlying265 Tryz.underlying266 Tryz.underlying267 Tryz.underlying268 Tryz.underlying269 Tryz.underlying270 zyW zyH zDU Tryz.underlying271 Tryz.underlying272 Tryz.underlying273 Tryz.underlying274 Tryz.underlying275 Tryz.underlying276 Tryz.underlying277 Tryz.underlying278 zyV zyG zDT Tryz.underlying279 Tryz.underlying280 Tryz.underlying281 Tryz.underlying282 Tryz.underlying283 Tryz.underlying285 Tryz.underlying287 Tryz.underlying288 Tryz.underlying289 Tryz.underlying290 Tryz.underlying291 Tryz.underlying293 Tryz.underlying294 Tryz.underlying295 Tryz.underlying296 Tryz.underlying297 Tryz.underlying298 Tryz.underlying299 Tryz.underlying300 Tryz.underlying301 Tryz.underlying302 Tryz.underlying303 Tryz.underlying304 Tryz.underlying305 Tryz.underlying306 Tryz.underlying308 Tryz.underlying309 zDS Tryz.underlying310 Tryz.underlying311 zDR Tryz.underlying312 Tryz.underlying313 Tryz.underlying314 Tryz.underlying315 Tryz.underlying316 Tryz.underlying318 Tryz.underlying319 Tryz.underlying320 Tryz.underlying321 Tryz.underlying322 Tryz.underlying323 Tryz.underlying324 Tryz.underlying325 Tryz.underlying326 Tryz.underlying328 Tryz.underlying329 Tryz.underlying330 Tryz.underlying331 Tryz.underlying333 Tryz.underlying334 Tryz.underlying335 Tryz.underlying336 Tryz.underlying337 Tryz.underlying338 Tryz.underlying339 Tryz.underlying340 Tryz.underlying341 Tryz.underlying342 Tryz.underlying343 Tryz.underlying345 Tryz.underlying346 Tryz.underlying347 Tryz.underlying348 Tryz.underlying349 Tryz.underlying350 Tryz.underlying351 Tryz.underlying352 Tryz.underlying353 Tryz.underlying354 Tryz.underlying355 Tryz.underlying358 Tryz.underlying360 Tryz.underlying361 Tryz.underlying363 Tryz.underlying364 Tryz.underlying366 Tryz.underlying367 Tryz.underlying368 Tryz.underlying369 Tryz.underlying370 Tryz.underlying371 Tryz.underlying372 Tryz.underlying373 Tryz.underlying374 Tryz.underlying375 Tryz.underlying376 Tryz.underlying377 mixed
end
end Go.Proofs.YtpnjjmcimjlfkaaGreatDoor
