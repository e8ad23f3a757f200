/- Texts of this proof, part 29: what the proof uses of them. -/
import Derived.Test.YtnnolijagpakiaaGreatDoorRap
import Derived.Test.YtnnolijagpakiaaGreatDoorRav
import Derived.Test.YtnnolijagpakiaaGreatDoorRan
import Derived.Test.YtnnolijagpakiaaGreatDoorRbb
import Derived.Test.YtnnolijagpakiaaGreatDoorRaq
namespace Go.Proofs.YtnnolijagpakiaaGreatDoor
open Go Go.RowKit
theorem sjoin_c (l : List ByteArray) (sep : ByteArray) (hl : l.length ≤ 140737488355328) (hn : (joinB l sep.data.toList).size ≤ 140737488355328) :
  Con Tryz.prog 111 [.d (.sl (encS l)), .d (.raw (.string sep))] (.d (.raw (.string (joinB l sep.data.toList)))) := by
 refine ⟨⟨_, Tryz.func111, by decide +kernel, rfl⟩, rfl, fun F w vs hF _ hlv hv => ?_⟩
 match vs, hlv with
 | [v, s], _ =>
  have h0 := hv 0 (by simp) (by simp)
  have h1 := hv 1 (by simp) (by simp)
  simp only [List.getElem_cons_zero, List.getElem_cons_succ] at h0 h1
  unfold HasC at h0 h1
  rw [h1.raw_eq]
  rcases reads_strs h0.sl with ⟨rfl, p, cap, rfl⟩ | ⟨h0p, b, off, cap, rfl, hcap, hfb, hc⟩
  ·refine (Tryz.strings_Join_none p cap sep w).mono ?_
   rintro e w' ⟨rfl, rfl⟩
   refine ⟨_, rfl, ?_, Below.refl _ _⟩
   exact .d (.raw _)
  ·refine (Tryz.strings_Join b off cap l sep w (fun j x hx => by
    obtain ⟨hj, rfl⟩ := List.getElem?_eq_some_iff.1 hx
    rw [hc j hj]
    simp [List.getD_eq_getElem?_getD, hj]) (hF _ _ hfb) hl hcap hn).mono ?_
   rintro e w' ⟨rfl, hb⟩
   exact ⟨_, rfl, .d (.raw _), hb⟩
def nmR (l : List ByteArray) (q : Nat) : List ByteArray := (l.take q).map nilS ++ l.drop q
theorem nmR_zero (l : List ByteArray) : nmR l 0 = l := by simp [nmR]
theorem nmR_all (l : List ByteArray) : nmR l l.length = l.map nilS := by simp [nmR]
theorem nmR_length (l : List ByteArray) (q : Nat) : (nmR l q).length = l.length := by simp [nmR]; omega
theorem nmR_at (l : List ByteArray) (q : Nat) (h : q < l.length) : (encS (nmR l q)).getD q [] = [.raw (.string l[q])] := by
 rw [encS_at _ q (by rw [nmR_length]; exact h)]
 have : (nmR l q)[q]'(by rw [nmR_length]; exact h) = l[q] := by
  simp only [nmR]
  rw [List.getElem_append_right (by simp; omega)]
  simp [Nat.min_eq_left (Nat.le_of_lt h)]
 rw [this]
theorem nmR_succ (l : List ByteArray) (q : Nat) (h : q < l.length) : nmR l (q + 1) = (nmR l q).set q (nilS l[q]) := by
 have hq : ((l.take q).map nilS).length = q := by simp; omega
 unfold nmR
 rw [List.take_succ_eq_append_getElem h, List.map_append, List.set_append_right _ _ (by omega), hq, Nat.sub_self, List.drop_eq_getElem_cons h, List.set_cons_zero]
 simp
theorem encS_set (l : List ByteArray) (q : Nat) (s : ByteArray) : (encS l).set q [.raw (.string s)] = encS (l.set q s) := by
 simp [encS, List.map_set]
theorem nmR_set (l : List ByteArray) (q : Nat) (h : q < l.length) (hz : l[q] = ⟨#[]⟩) : (encS (nmR l q)).set q [.raw (.string ⟨#[110, 105, 108]⟩)] = encS (nmR l (q + 1)) := by
 rw [encS_set, nmR_succ l q h]
 simp [nilS, hz, bs]
theorem nmR_keep (l : List ByteArray) (q : Nat) (h : q < l.length) (hz : ¬ l[q] = ⟨#[]⟩) : nmR l (q + 1) = nmR l q := by
 have e : (nmR l q)[q]'(by rw [nmR_length]; exact h) = l[q] := by
  have := nmR_at l q h
  rw [encS_at _ q (by rw [nmR_length]; exact h)] at this
  simpa using this
 have hs : nilS l[q] = l[q] := if_neg hz
 rw [nmR_succ l q h, hs, ← e, List.set_getElem_self]
def preA (x : Dc) : List ByteArray := if x.doubt then [bs [99, 111, 110, 102, 108, 105, 99, 116]] else []
def midA (x : Dc) : List ByteArray := midD x ++ (if x.id = 0 then [] else [bs [64] ++ itoaB x.id])
abbrev dcCell (x : Dc) : Blk := .cell 57 [.d (.raw (.int .i64 x.id)), .d (.raw (.int .i64 x.kind)), .d (.raw (.bool x.pub)), .d (.sl (encS x.names)), .d (.raw (.bool x.doubt)), .d (.raw (.int .i64 x.body.kind)), .d (.raw (.string x.body.name)), .d (.raw (.string x.body.more)), .d (.raw (.int .i64 x.body.int)), .d (.raw (.int .i64 x.body.den)), .d (.sl (encL x.body.sub))]
abbrev dpSt (x : Dc) (L : List ByteArray) : St := ⟨[(1, .box 0 0), (3, .grow 99 (encS L))], [(0, some (dcCell x))], [(99, some ⟨1, 9, L.length, none⟩)]⟩
abbrev dnSt2 (x : Dc) (L N : List ByteArray) : St := ⟨[(1, .box 0 0), (3, .grow 99 (encS L)), (4, .own 7002 x.names.length)], [(0, some (dcCell x)), (7002, some (.row 1 9 (encS N)))], [(99, some ⟨1, 9, L.length, none⟩)]⟩
abbrev dtSt (x : Dc) (L : List ByteArray) (q : Nat) : St := ⟨[(1, .box 0 0), (3, .grow 99 (encS L)), (4, .own 7002 x.names.length), (28, .own 7002 x.names.length), (29, .d (.raw (.int .i64 x.names.length))), (30, .d (.raw (.int .i64 q)))],
 [(0, some (dcCell x)), (7002, some (.row 1 9 (encS (nmR x.names q))))], [(99, some ⟨1, 9, L.length, none⟩)]⟩
theorem dp_snoc (x : Dc) (L : List ByteArray) (s : ByteArray) : (⟨[(1, .box 0 0), (3, .grow 99 (encS L ++ [[.raw (.string s)]]))], [(0, some (dcCell x))], [(99, some ⟨1, 9, L.length + 1, none⟩)]⟩ : St) = dpSt x (L ++ [s]) := by
 unfold dpSt
 rw [← encS_append, List.length_append]; rfl
theorem dp_app (x : Dc) (L M : List ByteArray) : (⟨[(1, .box 0 0), (3, .grow 99 (encS L ++ encS M))], [(0, some (dcCell x))], [(99, some ⟨1, 9, L.length + M.length, none⟩)]⟩ : St) = dpSt x (L ++ M) := by
 unfold dpSt
 rw [← encS_append, List.length_append]
theorem kindW_at {k : Int} (h : 1 ≤ k ∧ k ≤ 3) : ([.d (.raw (.string ⟨#[108, 101, 116]⟩)), .d (.raw (.string ⟨#[116, 101, 115, 116]⟩)), .d (.raw (.string ⟨#[102, 108, 97, 107, 121]⟩))] : List AV)[(k - 1).toNat]? = some (.d (.raw (.string (kindW k)))) := by
 have : k = 1 ∨ k = 2 ∨ k = 3 := by omega
 rcases this with rfl | rfl | rfl <;> rfl
set_option maxRecDepth 100000 in
set_option maxHeartbeats 16000000 in
theorem declText_c (x : Dc) (hb : nodesE x.body ≤ 524288) (hf : fullE x.body = true) (hk : 1 ≤ x.kind ∧ x.kind ≤ 3) (hn : 0 < x.names.length ∧ x.names.length ≤ 1048576) (hid : inI64 x.id) (hj : (joinB (x.names.map nilS) [32, 124, 124, 32]).size ≤ 140737488355328) (hJ : (joinB (dParts x) [32]).size ≤ 140737488355327) :
  Con Tryz.prog 54 [avD x] (.d (.raw (.string (dLine x)))) := by
 have ct := text_c (nodesE x.body + 1) x.body (by omega) (by omega) hf
 have ci := itoa_c x.id hid
 have cj := sjoin_c (x.names.map nilS) ⟨#[32, 124, 124, 32]⟩ (by rw [List.length_map]; omega) hj
 refine con_of Tryz.func54 rfl (by decide +kernel) rfl rfl (by simp [Tryz.ntmps54]) fun A hA => ?_
 rw [Tryz.ntmps54] at hA
 refine goC 20 ?_
 simp only [go_sem, hA, avD]
 refine satC_growTmp 99 3 1 9 (by simp only [go_sem]) rfl ?_
 refine goMid 300 [1, 3] [0] [99] (fun σ => σ = dpSt x (preA x)) ?_ ?_
 ·cases hd : x.doubt with
  | false =>
   have hp : preA x = [] := by unfold preA; rw [hd]; rfl
   simp only [go_sem, hA, hp, dpSt, dcCell, hd]
   rfl
  | true =>
   have hp : preA x = [bs [99, 111, 110, 102, 108, 105, 99, 116]] := by unfold preA; rw [hd]; rfl
   simp only [go_sem, hA, hp, dpSt, dcCell, hd]
   exact ⟨⟨encS_fit [bs [99, 111, 110, 102, 108, 105, 99, 116]], fun r hr => by cases hr⟩, rfl⟩
 rintro σ rfl
 have la : (preA x).length ≤ 1 := by unfold preA; split <;> simp
 refine goMid 300 [1, 3] [0] [99] (fun σ => σ = dpSt x (preD x)) ?_ ?_
 ·cases hd : x.pub with
  | false =>
   have hp : preD x = preA x := by unfold preD; rw [hd]; simp [preA]
   simp only [go_sem, hA, hp, dpSt, dcCell, hd]
  | true =>
   have hp : preD x = preA x ++ [bs [112, 117, 98]] := by unfold preD; rw [hd]; rfl
   simp only [go_sem, hA, hp, dpSt, dcCell, hd, encS_length]
   have hdp := dp_snoc x (preA x) (bs [112, 117, 98])
   simp only [dpSt, dcCell, hd] at hdp
   exact ⟨⟨encS_fit [bs [112, 117, 98]], encS_row _, by omega⟩, hdp⟩
 rintro σ rfl
 have lb : (preD x).length ≤ 2 := by unfold preD; rw [List.length_append]; split <;> split <;> simp
 have hin : inI64 (x.kind - 1) := by unfold inI64; omega
 have hw : IntKind.i64.wrap (x.kind - 1) = x.kind - 1 := wrapI64 hin
 refine goMid 5 [1, 3] [0] [99] (fun σ => σ = dpSt x (preD x ++ [kindW x.kind])) ?_ ?_
 ·simp only [go_sem, hA, dpSt, dcCell]
  refine goStep 12 (by simp only [go_sem]) (opOk_buildArr (n := 3) (e := 9) (z := .agg #[.string ⟨#[]⟩, .string ⟨#[]⟩, .string ⟨#[]⟩]) (by rfl) (by kernel_rfl) (by kernel_rfl) (by rw [show Tryz.prog.cellsOf 9 = 1 by kernel_rfl]; decide) (by rfl)) (by simp only [go_sem, hA]) ?_
  simp only [go_sem, hA]
  refine ⟨hin, ?_⟩
  refine goStep 300 (by simp only [go_sem]) (opOk_indexArr (n := 3) (e := 9) (by rfl) (by kernel_rfl) (by rfl) (by rfl) (by kernel_rfl) (by kernel_rfl) (by omega) (by omega) (kindW_at hk)) (by simp only [go_sem, hA]) ?_
  simp only [go_sem, hA, encS_length]
  exact ⟨⟨encS_fit [kindW x.kind], encS_row _, by omega⟩, dp_snoc x _ _⟩
 rintro σ rfl
 refine goMid 300 [1, 3, 4] [0, 7002] [99] (fun σ => σ = dnSt2 x (preD x ++ [kindW x.kind]) x.names) ?_ ?_
 ·simp only [go_sem, hA, dpSt, dcCell]
  refine goClone 300 (me := 7002) (l := x.names) rfl rfl rfl rfl rfl (by omega) (by omega) (St.free_of (by simp only [go_sem])) (by simp only [go_sem, hA]) ?_
  simp only [go_sem, hA]
 rintro σ rfl
 refine goMid 300 [1, 3, 4] [0, 7002] [99] (fun σ => σ = dnSt2 x (preD x ++ [kindW x.kind]) (x.names.map nilS)) ?_ ?_
 ·simp only [go_sem, hA, dnSt2, dcCell]
  refine satC_loop [1, 3, 4, 28, 29, 30] [0, 7002] [99] (fun y σ => ∃ q : Nat, q ≤ x.names.length ∧ y = x.names.length - q ∧ σ = dtSt x (preD x ++ [kindW x.kind]) q) x.names.length ⟨0, by omega, by omega, by simp only [go_sem, dtSt, nmR_zero]⟩ ?_
  rintro y σ ⟨q, hq, rfl, rfl⟩
  refine goC 300 ?_
  by_cases hlt : q < x.names.length
  ·have k1 : decide ((q : Int) < (x.names.length : Int)) = true := decide_eq_true (by omega)
   have hat := nmR_at x.names q hlt
   have hnl := nmR_length x.names q
   by_cases hz : x.names[q] = ⟨#[]⟩
   ·have k2 : decide (x.names[q] = ⟨#[]⟩) = true := decide_eq_true hz
    have hset := nmR_set x.names q hlt hz
    simp only [go_sem, hA, dtSt, dcCell, k1, k2, Int.toNat_natCast, hat, encS_length, hnl, hset]
    exact ⟨⟨by omega, by omega⟩, hlt, ⟨by omega, by omega⟩, hlt, by unfold inI64; omega, x.names.length - (q + 1), by omega, q + 1, by omega, rfl, rfl⟩
   ·have k2 : decide (x.names[q] = ⟨#[]⟩) = false := decide_eq_false hz
    have hkeep := nmR_keep x.names q hlt hz
    simp only [go_sem, hA, dtSt, dcCell, k1, k2, Int.toNat_natCast, hat, encS_length, hnl]
    exact ⟨⟨by omega, by omega⟩, hlt, by unfold inI64; omega, x.names.length - (q + 1), by omega, q + 1, by omega, rfl, by rw [hkeep]; rfl⟩
  ·have k1 : decide ((q : Int) < (x.names.length : Int)) = false := decide_eq_false (by omega)
   obtain rfl : q = x.names.length := by omega
   simp only [go_sem, hA, dtSt, dcCell, k1, nmR_all]
 rintro σ rfl
 have lm : (preD x ++ [kindW x.kind]).length ≤ 3 := by rw [List.length_append]; simp only [List.length_cons, List.length_nil]; omega
 refine goMid 300 [1, 3] [0] [99] (fun σ => σ = dpSt x (midD x)) ?_ ?_
 ·have hm : midD x = preD x ++ [kindW x.kind] ++ [joinB (x.names.map nilS) [32, 124, 124, 32]] := rfl
  have htk : (encS (x.names.map nilS)).take x.names.length = encS (x.names.map nilS) := List.take_of_length_le (by rw [encS_length, List.length_map]; omega)
  simp only [go_sem, hA, dnSt2, dcCell]
  refine goFrz 7002 ?_
  simp only [go_sem, encS_length, List.length_map]
  refine goCall 300 cj rfl rfl (by simp only [go_sem, hA]) ?_
  simp only [go_sem, hA, encS_length, hm]
  exact ⟨⟨encS_fit [_], encS_row _, by omega⟩, dp_snoc x _ _⟩
 rintro σ rfl
 have lm2 : (midD x).length ≤ 4 := by rw [show midD x = (preD x ++ [kindW x.kind]) ++ [joinB (x.names.map nilS) [32, 124, 124, 32]] from rfl, List.length_append]; exact Nat.succ_le_succ lm
 refine goMid 300 [1, 3] [0] [99] (fun σ => σ = dpSt x (midA x)) ?_ ?_
 ·by_cases h0 : x.id = 0
  ·have k0 : (decide ¬ x.id = 0) = false := decide_eq_false (fun h => h h0)
   have hm : midA x = midD x := by unfold midA; rw [if_pos h0, List.append_nil]
   simp only [go_sem, hA, dpSt, dcCell, k0, hm]
  ·have k0 : (decide ¬ x.id = 0) = true := decide_eq_true h0
   have hm : midA x = midD x ++ [bs [64] ++ itoaB x.id] := by unfold midA; rw [if_neg h0]
   have hs := itoaB_size x.id hid
   have z1 : (ByteArray.mk #[64]).size = 1 := rfl
   simp only [go_sem, hA, dpSt, dcCell, k0, hm]
   refine goCall 300 ci rfl rfl (by simp only [go_sem, hA]) ?_
   simp only [go_sem, hA, encS_length, z1]
   exact ⟨by omega, ⟨encS_fit [bs [64] ++ itoaB x.id], encS_row _, by omega⟩, dp_snoc x _ _⟩
 rintro σ rfl
 have lm3 : (midA x).length ≤ 5 := by unfold midA; rw [List.length_append]; split <;> simp <;> omega
 refine goMid 300 [1, 3] [0] [99] (fun σ => σ = dpSt x (dParts x)) ?_ ?_
 ·have hm : dParts x = midA x ++ [bs [61], txE x.body, bs [59]] := rfl
  simp only [go_sem, hA, dpSt, dcCell]
  refine goCallD 300 texts_c rfl rfl (by simp only [go_sem, hA]) ?_
  simp only [go_sem]
  refine goCallD 300 ct rfl (by simp only [go_sem, avE_eq]; rfl) (by simp only [go_sem, hA]) ?_
  simp only [go_sem, hA, encS_length]
  exact ⟨rfl, ⟨encS_fit [bs [61], txE x.body, bs [59]], encS_row _, by omega⟩, rfl, by show chk _ _ _ = true; kernel_rfl, by rw [hm]; exact dp_app x (midA x) [bs [61], txE x.body, bs [59]]⟩
 rintro σ rfl
 refine goC 300 ?_
 have lm4 : (dParts x).length ≤ 8 := by
  have hm : dParts x = midA x ++ [bs [61], txE x.body, bs [59]] := rfl
  rw [hm, List.length_append]; simp only [List.length_cons, List.length_nil]; omega
 have cj2 := sjoin_c (dParts x) ⟨#[32]⟩ (by omega) (by exact Nat.le_trans hJ (by decide))
 simp only [go_sem, hA, dpSt, dcCell]
 refine goCall 300 cj2 rfl rfl (by simp only [go_sem, hA]) ?_
 have z1 : (ByteArray.mk #[10]).size = 1 := rfl
 simp only [go_sem, hA, z1, Tryz.results54]
 exact ⟨by have : (joinB (dParts x) [32]).size ≤ 140737488355327 := hJ; omega, rfl⟩
end Go.Proofs.YtnnolijagpakiaaGreatDoor
namespace Go.Proofs.YtnnolijagpakiaaGreatDoor
open Go Go.RowKit
def upT (x : Sr) (q : Nat) : List UInt8 := catL ((x.uses.take q).map useB)
def dpT (x : Sr) (q : Nat) : List UInt8 := catL (x.uses.map useB ++ (x.decls.take q).map dLine)
theorem upT_succ (x : Sr) (q : Nat) (h : q < x.uses.length) : upT x (q + 1) = upT x q ++ (useB x.uses[q]).data.toList := by
 unfold upT
 rw [List.take_succ_eq_append_getElem h, List.map_append, catL_append, List.map_cons, List.map_nil, catL_one]
theorem dpT_zero (x : Sr) : dpT x 0 = upT x x.uses.length := by simp [dpT, upT]
theorem dpT_succ (x : Sr) (q : Nat) (h : q < x.decls.length) : dpT x (q + 1) = dpT x q ++ (dLine x.decls[q]).data.toList := by
 unfold dpT
 rw [List.take_succ_eq_append_getElem h, List.map_append, ← List.append_assoc, catL_append, List.map_cons, List.map_nil, catL_one]
theorem dpT_all (x : Sr) : dpT x x.decls.length = catL (srcParts x) := by simp [dpT, srcParts]
theorem upT_le {x : Sr} (h : OkSr x) (q : Nat) : (upT x q).length ≤ 1940 := by
 have h1 := h.uses_size
 have h2 := sumB_take (x.uses.map useB) q
 unfold upT
 rw [catL_length, List.map_take]
 omega
theorem dpT_mono (x : Sr) (q : Nat) : (dpT x q).length ≤ (catL (srcParts x)).length := by
 unfold dpT srcParts
 rw [catL_append, catL_append, List.length_append, List.length_append, catL_length ((x.decls.take q).map dLine), catL_length (x.decls.map dLine), List.map_take]
 have := sumB_take (x.decls.map dLine) q
 omega
abbrev bt1St (x : Sr) (c0 : AV) (q : Nat) (l : List UInt8) : St := ⟨[(1, .box 0 0), (5, .box 4000 0), (16, .d (.sl (encS x.uses))), (17, .d (.raw (.int .i64 x.uses.length))), (18, .d (.raw (.int .i64 q)))],
 [(0, some (.cell 26 [.d (.sl (encS x.uses)), .d (.sl (encDs x.decls))])), (4000, some (.cell 91 [c0, .grow 99 (bytesR l)]))], [(99, some ⟨1, 5, l.length, none⟩)]⟩
abbrev bt2St (x : Sr) (c0 : AV) (q : Nat) (l : List UInt8) : St := ⟨[(1, .box 0 0), (5, .box 4000 0), (28, .d (.sl (encDs x.decls))), (29, .d (.raw (.int .i64 x.decls.length))), (30, .d (.raw (.int .i64 q)))],
 [(0, some (.cell 26 [.d (.sl (encS x.uses)), .d (.sl (encDs x.decls))])), (4000, some (.cell 91 [c0, .grow 99 (bytesR l)]))], [(99, some ⟨1, 5, l.length, none⟩)]⟩
set_option maxRecDepth 100000 in
set_option maxHeartbeats 16000000 in
theorem stext_c (x : Sr) (hb : ∀ d ∈ x.decls, nodesE d.body ≤ 524288) : Con Tryz.prog 25 [avS x] (.tup [.d (.raw (.string (textX x).1)), .d (.raw (.int .i64 (textX x).2))]) := by
 have cs := ssource_c x hb
 refine con_of Tryz.func25 rfl (by decide +kernel) rfl rfl (by simp [Tryz.ntmps25]) fun A hA => ?_
 rw [Tryz.ntmps25] at hA
 refine goC 400 ?_
 simp only [go_sem, hA, avS]
 refine goCall 300 cs rfl (by simp only [go_sem, avS]) (by simp only [go_sem, hA]) ?_
 by_cases h : srcX sdeclX x = 0
 case neg =>
  have g1 : (decide ¬ srcX sdeclX x = 0) = true := decide_eq_true h
  have hx : textX x = (⟨#[]⟩, srcX sdeclX x) := if_neg h
  simp only [go_sem, hA, g1, hx, Tryz.results25]
 have g1 : (decide ¬ srcX sdeclX x = 0) = false := decide_eq_false (fun h' => h' h)
 have ok := src_ok h
 have hx : textX x = if 65536 < (catL (srcParts x)).length then (⟨#[]⟩, 4) else (⟨(catL (srcParts x)).toArray⟩, 0) := if_pos h
 have hul := ok.uses
 have hdl := ok.decls
 simp only [go_sem, hA, g1, encS_length]
 refine satC_growCell 99 4000 1 1 5 (by simp only [go_sem]) rfl rfl ?_
 refine satC_loop [1, 5, 16, 17, 18] [0, 4000] [99] (fun y σ => ∃ (q : Nat) (c0 : AV), q ≤ x.uses.length ∧ y = x.uses.length - q ∧ (c0 = .d (.raw (.pointer none)) ∨ c0 = .box 4000 0) ∧ σ = bt1St x c0 q (upT x q)) x.uses.length ⟨0, _, by omega, by omega, .inl rfl, by simp only [go_sem, upT, List.take_zero, List.map_nil, catL_nil]; rfl⟩ ?_
 rintro y σ ⟨q, c0, hq, rfl, hc0, rfl⟩
 have hul1 := upT_le ok q
 refine goC 300 ?_
 by_cases hlt : q < x.uses.length
 ·have k1 : decide ((q : Int) < (x.uses.length : Int)) = true := decide_eq_true (by omega)
  have hsucc := upT_succ x q hlt
  have hls := label_size (ok.lab _ (List.getElem_mem hlt))
  have hul2 := upT_le ok (q + 1)
  have zu : (ByteArray.mk #[117, 115, 101, 32]).size = 4 := rfl
  have zs : (ByteArray.mk #[32, 59, 10]).size = 3 := rfl
  have hsz : (useB x.uses[q]).size = x.uses[q].size + 7 := by simp only [useB, ba_size, bs_size, List.length_cons, List.length_nil]; omega
  simp only [go_sem, hA, bt1St, encS_length, k1, Int.toNat_natCast, encS_at x.uses q hlt]
  refine ⟨⟨by omega, by omega⟩, by omega, by omega, ?_⟩
  refine goWrite 300 (c0 := c0) (l := upT x q) (s := useB x.uses[q]) rfl rfl rfl rfl rfl rfl rfl hc0 rfl (by omega) (by simp only [go_sem, hA]) ?_
  simp only [go_sem, hA]
  have hA2 : (upT x q).length + (useB x.uses[q]).size = (upT x (q + 1)).length := by rw [hsucc, List.length_append]; rfl
  exact ⟨by unfold inI64; omega, x.uses.length - (q + 1), by omega, q + 1, .box 4000 0, by omega, rfl, .inr rfl, by rw [hA2, ← hsucc]; rfl⟩
 have k1 : decide ((q : Int) < (x.uses.length : Int)) = false := decide_eq_false (by omega)
 obtain rfl : q = x.uses.length := by omega
 simp only [go_sem, hA, bt1St, encDs_length, k1]
 refine satC_loop [1, 5, 28, 29, 30] [0, 4000] [99] (fun y σ => ∃ (q : Nat) (c0 : AV), q ≤ x.decls.length ∧ y = x.decls.length - q ∧ (c0 = .d (.raw (.pointer none)) ∨ c0 = .box 4000 0) ∧ (dpT x q).length ≤ 65536 ∧ σ = bt2St x c0 q (dpT x q)) x.decls.length ⟨0, c0, by omega, by omega, hc0, by rw [dpT_zero]; omega, by simp only [go_sem, dpT_zero]; rfl⟩ ?_
 clear hc0 hul1
 rintro y σ ⟨q, c0, hq, rfl, hc0, hle, rfl⟩
 refine goC 300 ?_
 by_cases hlt : q < x.decls.length
 ·have k1 : decide ((q : Int) < (x.decls.length : Int)) = true := decide_eq_true (by omega)
  obtain ⟨d, hd⟩ : ∃ d, x.decls[q] = d := ⟨_, rfl⟩
  have hdm : d ∈ x.decls := by rw [← hd]; exact List.getElem_mem hlt
  have okd := ok.dec d hdm
  have hsucc := dpT_succ x q hlt
  have hls := okd.line_size
  have hmono := dpT_mono x (q + 1)
  have ct := declText_c d (hb d hdm) (checkX_full okd.chk okd.ref) okd.kind (by have := okd.len; omega) (by have := okd.id; unfold inI64; omega) (by
   have h1 := namesB_size d.names
   have h2 := okd.nmsum
   have h3 := okd.len
   unfold namesB at h1
   omega) (by have := okd.size; omega)
  simp only [go_sem, hA, bt2St, encDs_length, k1, Int.toNat_natCast, encDs_at x.decls q hlt, hd, encD]
  refine ⟨⟨by omega, by omega⟩, by rcases hc0 with rfl | rfl <;> rfl, ?_⟩
  refine goCall 300 ct rfl (by simp only [go_sem, avD]) (by simp only [go_sem, hA]) ?_
  simp only [go_sem]
  refine goWrite 300 (c0 := c0) (l := dpT x q) (s := dLine d) rfl rfl rfl rfl rfl rfl rfl hc0 rfl (by omega) (by simp only [go_sem, hA]) ?_
  simp only [go_sem]
  rw [hd] at hsucc
  have hA2 : (dpT x q).length + (dLine d).size = (dpT x (q + 1)).length := by rw [hsucc, List.length_append]; rfl
  rw [hA2, ← hsucc]
  refine goLen 300 (c0 := .box 4000 0) (l := dpT x (q + 1)) rfl rfl rfl rfl rfl rfl (.inr rfl) rfl (by simp only [go_sem, hA]) ?_
  by_cases hgt : 65536 < (dpT x (q + 1)).length
  ·have k2 : decide ((65536 : Int) < ((dpT x (q + 1)).length : Int)) = true := decide_eq_true (by omega)
   rw [if_pos (by omega)] at hx
   simp only [go_sem, hA, k2, hx, Tryz.results25]
  ·have k2 : decide ((65536 : Int) < ((dpT x (q + 1)).length : Int)) = false := decide_eq_false (by omega)
   simp only [go_sem, hA, k2]
   exact ⟨by unfold inI64; omega, x.decls.length - (q + 1), by omega, q + 1, .box 4000 0, by omega, rfl, .inr rfl, by omega, rfl⟩
 have k1 : decide ((q : Int) < (x.decls.length : Int)) = false := decide_eq_false (by omega)
 obtain rfl : q = x.decls.length := by omega
 rw [dpT_all] at hle
 rw [if_neg (by omega)] at hx
 simp only [go_sem, hA, bt2St, k1]
 refine goString 300 (c0 := c0) (l := dpT x x.decls.length) rfl rfl rfl rfl rfl rfl hc0 rfl (by simp only [go_sem, hA]) ?_
 simp only [go_sem, hA, dpT_all, hx, Tryz.results25]
end Go.Proofs.YtnnolijagpakiaaGreatDoor
namespace Go.Proofs.YtnnolijagpakiaaGreatDoor
section
open Go Go.RowKit
theorem len_few (l : List Dc) : 4 * l.length ≤ (l.map fun d => nodesE d.body + 4).sum := by
 induction l with
 | nil => exact Nat.zero_le _
 | cons y l ih => rw [List.map_cons, List.sum_cons, List.length_cons]; omega
set_option maxRecDepth 100000 in
set_option maxHeartbeats 32000000 in
theorem lawValid_c (s : ByteArray) : Con Tryz.prog 10 [.d (.raw (.string s))] (.d (.raw (.bool true))) := by
 have ca := awake22_c
 have cp := pparse_c s
 have hcase := parse_cases s
 obtain ⟨x, at_, c, hR⟩ : ∃ x a c, parseP s = (x, a, c) := ⟨_, _, _, rfl⟩
 rw [hR] at cp hcase
 refine con_of Tryz.func10 rfl (by decide +kernel) rfl rfl (by simp [Tryz.ntmps10]) fun A hA => ?_
 rw [Tryz.ntmps10] at hA
 refine goC 400 ?_
 by_cases h5 : 500 < s.size
 ·have k0 : decide ((500 : Int) < (s.size : Int)) = true := decide_eq_true (by omega)
  simp only [go_sem, hA, k0]
  refine goCall 400 ca rfl rfl (by simp only [go_sem, hA]) ?_
  simp only [go_sem, hA, Tryz.results10]
 have k0 : decide ((500 : Int) < (s.size : Int)) = false := decide_eq_false (by omega)
 simp only [go_sem, hA, k0]
 refine goCall 400 cp rfl (by simp only [go_sem]) (by simp only [go_sem, hA]) ?_
 rcases hcase with ⟨h1, h2, h3, h4, h6⟩ | ⟨h1, h2, h3, h4⟩
 ·simp only at h1 h2 h3 h4 h6
  subst h1 h2
  have hok := src_ok h3
  have hlen := text_len hok
  have hlf := len_few x.decls
  have htx : textX x = (⟨(catL (srcParts x)).toArray⟩, 0) := by
   unfold textX
   rw [if_pos h3, if_neg (by omega)]
  have cst := stext_c x fun d hd => by have := h6 d hd; omega
  have cb := pparse_c ⟨(catL (srcParts x)).toArray⟩
  have ccs := ssource_c x fun d hd => by have := h6 d hd; omega
  have csm := rSameSource_c x x (by omega) (by omega) fun d hd => ⟨by have := h6 d hd; omega, by have := (hok.dec d hd).len; omega⟩
  have hsm : sameSr x x = true := (sameSr_iff x x).2 rfl
  rw [htx] at cst
  rw [parse_back h3 (by omega)] at cb
  simp only [go_sem, hA, avS]
  refine goCall 400 cst rfl (by simp only [go_sem, avS]) (by simp only [go_sem, hA]) ?_
  simp only [go_sem, hA]
  refine goCall 400 cb rfl (by simp only [go_sem]) (by simp only [go_sem, hA]) ?_
  simp only [go_sem, hA, avS]
  refine goCall 400 ccs rfl (by simp only [go_sem, avS]) (by simp only [go_sem, hA]) ?_
  simp only [go_sem, hA, h3]
  refine goCall 400 csm rfl (by simp only [go_sem, avS]) (by simp only [go_sem, hA]) ?_
  simp only [go_sem, hA, hsm]
  refine goCall 400 ca rfl rfl (by simp only [go_sem, hA]) ?_
  simp only [go_sem, hA, Tryz.results10]
 ·simp only at h1 h2 h3 h4
  subst h2
  have g1 : (decide ¬c = 0) = true := decide_eq_true h1
  have g2 : decide ((0 : Int) ≤ at_) = true := decide_eq_true h3
  have g3 : decide (at_ ≤ (s.size : Int)) = true := decide_eq_true h4
  have g4 : (((0 : Nat) : Int) + ((0 : Nat) : Int)) = 0 := rfl
  have g5 : decide ((0 : Int) + 0 = 0) = true := rfl
  simp only [go_sem, hA, avS, encS, encDs, List.map_nil, List.length_nil, g1, g2, g3, g5]
  refine ⟨by unfold inI64; omega, ?_⟩
  refine goCall 400 ca rfl rfl (by simp only [go_sem, hA]) ?_
  simp only [go_sem, hA, Tryz.results10]
end
section
theorem ok_tok {r : List UInt8} {p : Nat} (h : okNext r = true) : TokOK (tokL r p) := by
 have h : checkL (nextL r).1 (r.take (nextL r).2) 0 = 0 := by simpa [okNext] using h
 unfold checkL at h
 by_cases h1 : (nextL r).1 < 1 ∨ 4 < (nextL r).1
 ·rw [if_pos h1] at h; omega
 ·rw [if_neg h1] at h
  cases ht : textL (nextL r).1 (r.take (nextL r).2)
  ·rw [if_neg (by simp [ht])] at h; omega
  ·exact ⟨by show 1 ≤ (nextL r).1; omega, by show (nextL r).1 ≤ 4; omega, ht⟩
theorem scanT_valid : ∀ (f : Nat) (r : List UInt8) (p : Nat) (acc ts : List LTok), (∀ t ∈ acc, TokOK t) → scanT f r p acc = (ts, none) → ∀ t ∈ ts, TokOK t
 | 0, r, p, acc, ts, ha, h => by
  obtain rfl : acc = ts := by simpa [scanT] using h
  exact ha
 | f + 1, r, p, acc, ts, ha, h => by
  rcases Nat.eq_zero_or_pos r.length with h0 | h0
  ·rw [scanT_end h0] at h
   obtain rfl : acc = ts := by simpa using h
   exact ha
  ·cases ho : okNext r
   ·rw [scanT_err h0 ho] at h; simp at h
   ·rw [scanT_step h0 ho] at h
    refine scanT_valid f _ _ _ _ (fun t ht => ?_) h
    rcases List.mem_append.1 ht with ht | ht
    ·exact ha t ht
    ·obtain rfl : t = _ := List.mem_singleton.1 ht
     exact ok_tok ho
theorem scan_valid {l : List UInt8} {ts : List LTok} (h : scanAll l = (ts, none)) : ∀ t ∈ ts, TokOK t :=
 scanT_valid _ _ _ [] ts (fun t ht => by simp at ht) h
theorem word_short {m : Nat} {l : List UInt8} (h : wordL m l = true) : l.length ≤ m := by
 rcases Nat.lt_or_ge m l.length with h1 | h1
 ·rw [wordL_long h1] at h; cases h
 ·exact h1
theorem tok_short {t : LTok} (h : TokOK t) : t.text.length ≤ 90 := by
 obtain ⟨h1, h4, ht⟩ := h
 have : t.kind = 1 ∨ t.kind = 2 ∨ t.kind = 3 ∨ t.kind = 4 := by omega
 rcases this with e | e | e | e
 ·rw [e, textL_1] at ht; have := word_short ht; omega
 ·rw [e, textL_2, Bool.and_eq_true] at ht
  have := ht.1; unfold labelL at this; rw [Bool.and_eq_true] at this
  simpa using this.1
 ·rw [e, textL_3] at ht
  unfold numberL at ht
  have core : ∀ l : List UInt8, numCore l = true → l.length ≤ 9 := fun l h => by
   simp only [numCore, Bool.and_eq_true, decide_eq_true_eq] at h; omega
  split at ht
  ·rw [Bool.and_eq_true] at ht
   have := core _ ht.1
   simp at this; omega
  ·have := core _ ht; omega
 ·rw [e, textL_4, Bool.and_eq_true] at ht
  rcases sign_cases (by simpa using ht.1) (by simpa using ht.2) with hx | hx | hx | ⟨c, hx, _⟩ <;> rw [hx] <;> simp
def sepG (g : Nat) : List UInt8 := if g = 0 then [32] else if g = 1 then [10] else if g = 2 then [32, 32, 35, 32, 108, 101, 116, 10] else [10, 10]
theorem sepG_skips (g : Nat) : Skips (sepG g) := fun x => by
 unfold sepG skipL
 repeat' split
 all_goals simp [skipGo]
 all_goals omega
theorem sepG_cons (g : Nat) : ∃ c q, sepG g = c :: q ∧ (c = 32 ∨ c = 10) := by
 unfold sepG
 split
 ·exact ⟨32, [], rfl, .inl rfl⟩
 ·split
  ·exact ⟨10, [], rfl, .inr rfl⟩
  ·split
   ·exact ⟨32, _, rfl, .inl rfl⟩
   ·exact ⟨10, [10], rfl, .inr rfl⟩
theorem sepG_len (g : Nat) : (sepG g).length ≤ 8 := by
 unfold sepG
 repeat' split
 all_goals simp
def wideT (g : Nat → Nat) : List LTok → Nat → List UInt8
 | [], _ => []
 | t :: l, k => t.text ++ (sepG (g k) ++ wideT g l (k + 1))
theorem wideT_snoc (g : Nat → Nat) : ∀ (l : List LTok) (t : LTok) (k : Nat), wideT g (l ++ [t]) k = wideT g l k ++ (t.text ++ sepG (g (k + l.length)))
 | [], t, k => by simp [wideT]
 | u :: l, t, k => by
  rw [List.cons_append, wideT, wideT_snoc g l t (k + 1), wideT, List.length_cons, show k + 1 + l.length = k + (l.length + 1) by omega]
  simp
theorem wideT_len (g : Nat → Nat) : ∀ (l : List LTok) (k : Nat), (∀ t ∈ l, TokOK t) → (wideT g l k).length ≤ 98 * l.length
 | [], k, _ => Nat.zero_le _
 | t :: l, k, h => by
  have h1 := tok_short (h t (by simp))
  have h2 := sepG_len (g k)
  have h3 := wideT_len g l (k + 1) fun u hu => h u (by simp [hu])
  rw [wideT, List.length_append, List.length_append, List.length_cons]
  omega
theorem wide_flat (g : Nat → Nat) : ∀ (l : List LTok) (k : Nat), (∀ t ∈ l, TokOK t) → ∃ L z, sepG (g k) ++ wideT g l (k + 1) = flatL L z ∧ L.map (fun x => kt x.2) = l.map kt ∧ LaidOK L ∧ Inner L ∧ skipL z = z.length ∧ Delim z
 | [], k, _ => by
  refine ⟨[], sepG (g k), by simp [wideT, flatL], rfl, fun x hx => (by cases hx), fun x hx => (by cases hx), ?_, .inr (sepG_cons _)⟩
  have := sepG_skips (g k) []
  rw [List.append_nil] at this
  rw [this]; rfl
 | t :: l, k, h => by
  obtain ⟨L, z, h1, h2, h3, h4, h5, h6⟩ := wide_flat g l (k + 1) fun u hu => h u (by simp [hu])
  refine ⟨(sepG (g k), t) :: L, z, by rw [wideT, h1]; rfl, by rw [List.map_cons, h2]; rfl, fun x hx => ?_, fun x hx => ?_, h5, h6⟩
  ·rcases List.mem_cons.1 hx with rfl | hx
   ·exact ⟨sepG_skips _, h t (by simp)⟩
   ·exact h3 x hx
  ·rcases List.mem_cons.1 hx with rfl | hx
   ·exact sepG_cons _
   ·exact h4 x hx
theorem wide_scan (g : Nat → Nat) {l : List LTok} (h : ∀ t ∈ l, TokOK t) : ∃ us, scanAll (wideT g l 0) = (us, none) ∧ us.map kt = l.map kt := by
 cases l with
 | nil => exact ⟨[], rfl, rfl⟩
 | cons t l =>
  obtain ⟨L, z, h1, h2, h3, h4, h5, h6⟩ := wide_flat g l 0 fun u hu => h u (by simp [hu])
  obtain ⟨us, e1, e2⟩ := scan_laid (s := []) (t := t) (L := L) (z := z) (fun x => by simp) (h t (by simp)) h3 h4 h5 h6
  refine ⟨us, ?_, by rw [e2, h2]; rfl⟩
  rw [wideT, h1]
  exact e1
end
section
open Go Go.RowKit
def gapv (gs : List UInt8) (i : Nat) : Nat := if gs.length = 0 then 0 else (gs.getD (i % gs.length) 0).toNat % 4
theorem gapv_lt (gs : List UInt8) (i : Nat) : gapv gs i < 4 := by
 unfold gapv
 split
 ·omega
 ·exact Nat.mod_lt _ (by omega)
theorem encU8_length (l : List UInt8) : (encU8 l).length = l.length := by simp [encU8]
theorem encU8_at (l : List UInt8) (i : Nat) (h : i < l.length) : (encU8 l).getD i [] = [.raw (.int .u8 l[i].toNat)] := by
 simp [encU8, List.getD_eq_getElem?_getD, h]
abbrev bL (l : List UInt8) : ByteArray := ⟨l.toArray⟩
theorem bL_size (l : List UInt8) : (bL l).size = l.length := by show l.toArray.size = _; simp
abbrev rtSt (x : Sr) (gs : List UInt8) (us : List LTok) (i : Nat) : St := ⟨[(1, .d (.sl (encU8 gs))), (2, .box 0 0), (13, .d (.raw (.string (bL (wideT (gapv gs) (us.take i) 0))))), (64, .d (.sl (encTs us))), (65, .d (.raw (.int .i64 us.length))), (66, .d (.raw (.int .i64 i)))], [(0, some (srB x))], []⟩
abbrev sepR : List (List D) := [[.raw (.string ⟨#[32]⟩)], [.raw (.string ⟨#[10]⟩)], [.raw (.string ⟨#[32, 32, 35, 32, 108, 101, 116, 10]⟩)], [.raw (.string ⟨#[10, 10]⟩)]]
theorem sepR0 : sepR.getD 0 [] = [.raw (.string ⟨#[32]⟩)] := rfl
theorem sepR1 : sepR.getD 1 [] = [.raw (.string ⟨#[10]⟩)] := rfl
theorem sepR2 : sepR.getD 2 [] = [.raw (.string ⟨#[32, 32, 35, 32, 108, 101, 116, 10]⟩)] := rfl
theorem sepR3 : sepR.getD 3 [] = [.raw (.string ⟨#[10, 10]⟩)] := rfl
theorem rt_next {x : Sr} {gs : List UInt8} {us : List LTok} {i : Nat} {b c : List UInt8} (h : wideT (gapv gs) (us.take (i + 1)) 0 = wideT (gapv gs) (us.take i) 0 ++ (b ++ c)) : (⟨[(1, .d (.sl (encU8 gs))), (2, .box 0 0), (13, .d (.raw (.string (bL (wideT (gapv gs) (us.take i) 0) ++ (bL b ++ bL c))))), (64, .d (.sl (encTs us))), (65, .d (.raw (.int .i64 us.length))), (66, .d (.raw (.int .i64 ((i : Int) + 1))))], [(0, some (srB x))], []⟩ : St) = rtSt x gs us (i + 1) := by
 unfold rtSt
 rw [h, ba_append, ba_append]; rfl
set_option maxRecDepth 100000 in
set_option maxHeartbeats 32000000 in
theorem lawRound_c (x : Sr) (gs : List UInt8) (hb : ∀ d ∈ x.decls, nodesE d.body ≤ 1048576) (hgs : gs.length ≤ 1048576) : Con Tryz.prog 9 [avS x, .d (.sl (encU8 gs))] (.d (.raw (.bool true))) := by
 have ca := awake22_c
 have cg := rGreatSource_c x hb
 refine con_of Tryz.func9 rfl (by decide +kernel) rfl rfl (by simp [Tryz.ntmps9]) fun A hA => ?_
 rw [Tryz.ntmps9] at hA
 refine goC 400 ?_
 simp only [go_sem, hA, avS]
 refine goCall 400 cg rfl (by simp only [go_sem, avS]) (by simp only [go_sem, hA]) ?_
 cases h1 : greatS x with
 | true =>
  simp only [go_sem, hA, undef]
  refine goCall 400 ca rfl rfl (by simp only [go_sem, hA]) ?_
  simp only [go_sem, hA, Tryz.results9]
 | false =>
 by_cases h2 : 10 < gs.length
 ·have k2 : decide ((10 : Int) < (gs.length : Int)) = true := decide_eq_true (by omega)
  simp only [go_sem, hA, encU8_length, k2]
  refine goCall 400 ca rfl rfl (by simp only [go_sem, hA]) ?_
  simp only [go_sem, hA, Tryz.results9]
 have k2 : decide ((10 : Int) < (gs.length : Int)) = false := decide_eq_false (by omega)
 have na := greatS_nodes h1
 obtain ⟨n1, n2, n3⟩ := greatS_names h1
 have ct := stext_c x fun d hd => by have := na d hd; omega
 have cs := rSameSource_c x x (by omega) (by omega) fun d hd => ⟨by have := na d hd; omega, by have := n3 d hd; omega⟩
 have hsm : sameSr x x = true := (sameSr_iff x x).2 rfl
 rw [hsm] at cs
 simp only [go_sem, hA, encU8_length, k2]
 refine goCall 400 ct rfl (by simp only [go_sem, avS]) (by simp only [go_sem, hA]) ?_
 by_cases h4 : (textX x).2 = 0
 case neg =>
  have k4 : (decide ¬(textX x).2 = 0) = true := decide_eq_true h4
  simp only [go_sem, hA, k4]
  refine goCall 400 ca rfl rfl (by simp only [go_sem, hA]) ?_
  simp only [go_sem, hA, Tryz.results9]
 have k4 : (decide ¬(textX x).2 = 0) = false := decide_eq_false (by simpa using h4)
 obtain ⟨hok, htx, hln⟩ := textX_ok h4
 have h0 : srcX sdeclX x = 0 := by
  unfold textX at h4
  by_cases h : srcX sdeclX x = 0
  ·exact h
  ·rw [if_neg h] at h4; exact absurd h4 h
 obtain ⟨us, e1, e2⟩ := sc_scan (sc_source hok [])
 have hsz : (textX x).1.size ≤ 65536 := by rw [htx]; show (catL (srcParts x)).toArray.size ≤ _; simpa using hln
 have hsc : scanX (textX x).1 = (us, 0, 0) := by
  unfold scanX
  rw [if_neg (by omega), htx, show scanAll (⟨(catL (srcParts x)).toArray⟩ : ByteArray).data.toList = (us, none) from e1]
 have hlu : us.length ≤ 65536 := by have := (scan_bound (textX x).1).1; rw [hsc] at this; exact this
 have hval := scan_valid e1
 have cp := pparse_c (textX x).1
 have csc := scan_c (textX x).1
 rw [hsc] at csc
 rw [htx, parse_back h0 hln, ← htx] at cp
 simp only [go_sem, hA, k4]
 refine goCall 400 cp rfl (by simp only [go_sem]) (by simp only [go_sem, hA]) ?_
 simp only [go_sem, hA, avS]
 refine goCall 400 csc rfl (by simp only [go_sem]) (by simp only [go_sem, hA]) ?_
 simp only [go_sem, hA]
 refine goCall 400 cs rfl (by simp only [go_sem, avS]) (by simp only [go_sem, hA]) ?_
 simp only [go_sem, hA, encTs_length]
 refine satC_loop [1, 2, 13, 64, 65, 66] [0] [] (fun y σ => ∃ i : Nat, i ≤ us.length ∧ y = us.length - i ∧ σ = rtSt x gs us i) us.length ⟨0, by omega, by omega, by simp only [go_sem, rtSt]; rfl⟩ ?_
 rintro y σ ⟨i, hi, rfl, rfl⟩
 by_cases hlt : i < us.length
 case neg =>
  obtain rfl : i = us.length := by omega
  have k5 : decide ((us.length : Int) < (us.length : Int)) = false := decide_eq_false (by omega)
  refine goC 400 ?_
  simp only [go_sem, hA, rtSt, List.take_length, k5]
  have cw := pparse_c (bL (wideT (gapv gs) us 0))
  have hws := bL_size (wideT (gapv gs) us 0)
  by_cases hbig : 65536 < (wideT (gapv gs) us 0).length
  ·have k7 : decide ((65536 : Int) < ((wideT (gapv gs) us 0).length : Int)) = true := decide_eq_true (by omega)
   refine goCall 400 cw rfl (by simp only [go_sem]) (by simp only [go_sem, hA]) ?_
   simp only [go_sem, hA, avS, hws, k7]
   refine goCall 400 ca rfl rfl (by simp only [go_sem, hA]) ?_
   simp only [go_sem, hA, Tryz.results9]
  ·have k7 : decide ((65536 : Int) < ((wideT (gapv gs) us 0).length : Int)) = false := decide_eq_false (by omega)
   obtain ⟨vs, e3, e4⟩ := wide_scan (gapv gs) hval
   rw [parse_text h0 (by omega) e3 (by rw [e4, e2])] at cw
   refine goCall 400 cw rfl (by simp only [go_sem]) (by simp only [go_sem, hA]) ?_
   simp only [go_sem, hA, avS, hws, k7]
   refine goCall 400 cs rfl (by simp only [go_sem, avS]) (by simp only [go_sem, hA]) ?_
   simp only [go_sem, hA]
   refine goCall 400 ca rfl rfl (by simp only [go_sem, hA]) ?_
   simp only [go_sem, hA, Tryz.results9]
 have k5 : decide ((i : Int) < (us.length : Int)) = true := decide_eq_true (by omega)
 have hat := encTs_at us i hlt
 have hsn : wideT (gapv gs) (us.take (i + 1)) 0 = wideT (gapv gs) (us.take i) 0 ++ (us[i].text ++ sepG (gapv gs i)) := by
  rw [List.take_succ_eq_append_getElem hlt, wideT_snoc, List.length_take, show 0 + min i us.length = i by omega]
 have hl1 := wideT_len (gapv gs) (us.take i) 0 fun u hu => hval u (List.mem_of_mem_take hu)
 have hl2 := tok_short (hval us[i] (List.getElem_mem hlt))
 rw [List.length_take] at hl1
 refine goC 400 ?_
 by_cases hz : gs.length = 0
 ·have k6 : decide ((0 : Int) < (gs.length : Int)) = false := decide_eq_false (by omega)
  have hg : gapv gs i = 0 := if_pos hz
  rw [hg] at hsn
  simp only [go_sem, hA, rtSt, k5, encTs_length, Int.toNat_natCast, hat, encT, encU8_length, k6, sepR0, mixed]
  exact ⟨⟨by omega, by omega⟩, by omega, by omega, by show chk _ _ _ = true; kernel_rfl, by unfold inI64; omega, us.length - (i + 1), by omega, i + 1, by omega, rfl, rt_next (c := [32]) hsn⟩
 ·have k6 : decide ((0 : Int) < (gs.length : Int)) = true := decide_eq_true (by omega)
  have hq : i % gs.length < gs.length := Nat.mod_lt _ (by omega)
  have hmod : (i : Int).tmod (gs.length : Int) = ((i % gs.length : Nat) : Int) := by rw [Int.tmod_eq_emod_of_nonneg (by omega), Int.natCast_emod]
  have hg : gapv gs i = gs[i % gs.length].toNat % 4 := by unfold gapv; rw [if_neg hz, List.getD_eq_getElem?_getD, List.getElem?_eq_getElem hq]; rfl
  have hu8 := encU8_at gs (i % gs.length) hq
  have hlt8 := UInt8.toNat_lt gs[i % gs.length]
  have hwr : IntKind.i64.wrap (gs[i % gs.length].toNat : Int) = (gs[i % gs.length].toNat : Int) := wrapI64 (by unfold inI64; omega)
  have hv : (gs[i % gs.length].toNat : Int).tmod 4 = ((gapv gs i : Nat) : Int) := by rw [hg, Int.tmod_eq_emod_of_nonneg (by omega)]; omega
  have hg4 := gapv_lt gs i
  generalize gapv gs i = k at hsn hv hg4
  obtain rfl | rfl | rfl | rfl : k = 0 ∨ k = 1 ∨ k = 2 ∨ k = 3 := by omega
  ·simp only [go_sem, hA, rtSt, k5, encTs_length, Int.toNat_natCast, hat, encT, encU8_length, k6, hmod, hu8, hwr, hv, sepR0, mixed]
   exact ⟨⟨by omega, by omega⟩, by omega, ⟨by omega, by omega⟩, by decide, by omega, by omega, by show chk _ _ _ = true; kernel_rfl, by unfold inI64; omega, us.length - (i + 1), by omega, i + 1, by omega, rfl, rt_next (c := [32]) hsn⟩
  ·simp only [go_sem, hA, rtSt, k5, encTs_length, Int.toNat_natCast, hat, encT, encU8_length, k6, hmod, hu8, hwr, hv, sepR1, mixed]
   exact ⟨⟨by omega, by omega⟩, by omega, ⟨by omega, by omega⟩, by decide, by omega, by omega, by show chk _ _ _ = true; kernel_rfl, by unfold inI64; omega, us.length - (i + 1), by omega, i + 1, by omega, rfl, rt_next (c := [10]) hsn⟩
  ·simp only [go_sem, hA, rtSt, k5, encTs_length, Int.toNat_natCast, hat, encT, encU8_length, k6, hmod, hu8, hwr, hv, sepR2, mixed]
   exact ⟨⟨by omega, by omega⟩, by omega, ⟨by omega, by omega⟩, by decide, by omega, by omega, by show chk _ _ _ = true; kernel_rfl, by unfold inI64; omega, us.length - (i + 1), by omega, i + 1, by omega, rfl, rt_next (c := [32, 32, 35, 32, 108, 101, 116, 10]) hsn⟩
  ·simp only [go_sem, hA, rtSt, k5, encTs_length, Int.toNat_natCast, hat, encT, encU8_length, k6, hmod, hu8, hwr, hv, sepR3, mixed]
   exact ⟨⟨by omega, by omega⟩, by omega, ⟨by omega, by omega⟩, by decide, by omega, by omega, by show chk _ _ _ = true; kernel_rfl, by unfold inI64; omega, us.length - (i + 1), by omega, i + 1, by omega, rfl, rt_next (c := [10, 10]) hsn⟩
end
end Go.Proofs.YtnnolijagpakiaaGreatDoor
