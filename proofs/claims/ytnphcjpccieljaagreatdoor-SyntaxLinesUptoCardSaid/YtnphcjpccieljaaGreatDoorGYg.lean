/- declText of the program of layer 21, walked. Text of the program of layer 21, walked. awake of the statements of layer 21, walked. -/
import Derived.Test.YtnphcjpccieljaaGreatDoorGYf
import Derived.Test.YtnphcjpccieljaaGreatDoorGPl
import Derived.Test.YtnphcjpccieljaaGreatDoorGBld
namespace Go.Proofs.YtnphcjpccieljaaGreatDoor
open Go Go.RowKit
theorem join_c (l : List ByteArray) (sep : ByteArray) (hl : l.length ≤ 140737488355328) (hn : (joinB l sep.data.toList).size ≤ 140737488355328) :
    Con Tryz.prog 71 [.d (.sl (encS l)), .d (.raw (.string sep))] (.d (.raw (.string (joinB l sep.data.toList)))) := by
  refine ⟨⟨_, Tryz.func71, by decide +kernel, rfl⟩, rfl, fun F w vs hF _ hlv hv => ?_⟩
  match vs, hlv with
  | [v, s], _ =>
    have h0 := hv 0 (by simp) (by simp)
    have h1 := hv 1 (by simp) (by simp)
    simp only [List.getElem_cons_zero, List.getElem_cons_succ] at h0 h1
    unfold HasC at h0 h1
    rw [h1.raw_eq]
    rcases reads_strs h0.sl with ⟨rfl, p, cap, rfl⟩ | ⟨h0p, b, off, cap, rfl, hcap, hfb, hc⟩
    · refine (Tryz.strings_Join_none p cap sep w).mono ?_
      rintro e w' ⟨rfl, rfl⟩
      refine ⟨_, rfl, ?_, Below.refl _ _⟩
      exact .d (.raw _)
    · refine (Tryz.strings_Join b off cap l sep w (fun j x hx => by
        obtain ⟨hj, rfl⟩ := List.getElem?_eq_some_iff.1 hx
        rw [hc j hj]
        simp [List.getD_eq_getElem?_getD, hj]) (hF _ _ hfb) hl hcap hn).mono ?_
      rintro e w' ⟨rfl, hb⟩
      exact ⟨_, rfl, .d (.raw _), hb⟩
def nmR (l : List ByteArray) (q : Nat) : List ByteArray := (l.take q).map nilS ++ l.drop q
theorem nmR_zero (l : List ByteArray) : nmR l 0 = l := by simp [nmR]
theorem nmR_all (l : List ByteArray) : nmR l l.length = l.map nilS := by simp [nmR]
theorem nmR_length (l : List ByteArray) (q : Nat) : (nmR l q).length = l.length := by simp [nmR]; omega
theorem nmR_at (l : List ByteArray) (q : Nat) (h : q < l.length) : (encS (nmR l q)).getD q [] = [.raw (.string l[q])] := by
  rw [encS_at _ q (by rw [nmR_length]; exact h)]
  have : (nmR l q)[q]'(by rw [nmR_length]; exact h) = l[q] := by
    simp only [nmR]
    rw [List.getElem_append_right (by simp; omega)]
    simp [Nat.min_eq_left (Nat.le_of_lt h)]
  rw [this]
theorem nmR_succ (l : List ByteArray) (q : Nat) (h : q < l.length) : nmR l (q + 1) = (nmR l q).set q (nilS l[q]) := by
  have hq : ((l.take q).map nilS).length = q := by simp; omega
  unfold nmR
  rw [List.take_succ_eq_append_getElem h, List.map_append, List.set_append_right _ _ (by omega), hq, Nat.sub_self, List.drop_eq_getElem_cons h, List.set_cons_zero]
  simp
theorem encS_set (l : List ByteArray) (q : Nat) (s : ByteArray) : (encS l).set q [.raw (.string s)] = encS (l.set q s) := by
  simp [encS, List.map_set]
theorem nmR_set (l : List ByteArray) (q : Nat) (h : q < l.length) (hz : l[q] = ⟨#[]⟩) : (encS (nmR l q)).set q [.raw (.string ⟨#[110, 105, 108]⟩)] = encS (nmR l (q + 1)) := by
  rw [encS_set, nmR_succ l q h]
  simp [nilS, hz, bs]
theorem nmR_keep (l : List ByteArray) (q : Nat) (h : q < l.length) (hz : ¬ l[q] = ⟨#[]⟩) : nmR l (q + 1) = nmR l q := by
  have e : (nmR l q)[q]'(by rw [nmR_length]; exact h) = l[q] := by
    have := nmR_at l q h
    rw [encS_at _ q (by rw [nmR_length]; exact h)] at this
    simpa using this
  have hs : nilS l[q] = l[q] := if_neg hz
  rw [nmR_succ l q h, hs, ← e, List.set_getElem_self]
def preA (x : Dc) : List ByteArray := if x.doubt then [bs [99, 111, 110, 102, 108, 105, 99, 116]] else []
def midA (x : Dc) : List ByteArray := midD x ++ (if x.id = 0 then [] else [bs [64] ++ itoaB x.id])
abbrev dcCell (x : Dc) : Blk := .cell 54 [.d (.raw (.int .i64 x.id)), .d (.raw (.int .i64 x.kind)), .d (.raw (.bool x.pub)), .d (.sl (encS x.names)), .d (.raw (.bool x.doubt)), .d (.raw (.int .i64 x.body.kind)), .d (.raw (.string x.body.name)), .d (.raw (.string x.body.more)), .d (.raw (.int .i64 x.body.int)), .d (.raw (.int .i64 x.body.den)), .d (.sl (encL x.body.sub))]
abbrev dpSt (x : Dc) (L : List ByteArray) : St := ⟨[(1, .box 0 0), (3, .grow 99 (encS L))], [(0, some (dcCell x))], [(99, some ⟨1, 9, L.length⟩)]⟩
abbrev dnSt2 (x : Dc) (L N : List ByteArray) : St := ⟨[(1, .box 0 0), (3, .grow 99 (encS L)), (4, .own 7002 x.names.length)], [(0, some (dcCell x)), (7002, some (.row 1 9 (encS N)))], [(99, some ⟨1, 9, L.length⟩)]⟩
abbrev dtSt (x : Dc) (L : List ByteArray) (q : Nat) : St := ⟨[(1, .box 0 0), (3, .grow 99 (encS L)), (4, .own 7002 x.names.length), (28, .own 7002 x.names.length), (29, .d (.raw (.int .i64 x.names.length))), (30, .d (.raw (.int .i64 q)))],
  [(0, some (dcCell x)), (7002, some (.row 1 9 (encS (nmR x.names q))))], [(99, some ⟨1, 9, L.length⟩)]⟩
theorem dp_snoc (x : Dc) (L : List ByteArray) (s : ByteArray) : (⟨[(1, .box 0 0), (3, .grow 99 (encS L ++ [[.raw (.string s)]]))], [(0, some (dcCell x))], [(99, some ⟨1, 9, L.length + 1⟩)]⟩ : St) = dpSt x (L ++ [s]) := by
  unfold dpSt
  rw [← encS_append, List.length_append]; rfl
theorem dp_app (x : Dc) (L M : List ByteArray) : (⟨[(1, .box 0 0), (3, .grow 99 (encS L ++ encS M))], [(0, some (dcCell x))], [(99, some ⟨1, 9, L.length + M.length⟩)]⟩ : St) = dpSt x (L ++ M) := by
  unfold dpSt
  rw [← encS_append, List.length_append]
theorem kindW_at {k : Int} (h : 1 ≤ k ∧ k ≤ 3) : ([.d (.raw (.string ⟨#[108, 101, 116]⟩)), .d (.raw (.string ⟨#[116, 101, 115, 116]⟩)), .d (.raw (.string ⟨#[102, 108, 97, 107, 121]⟩))] : List AV)[(k - 1).toNat]? = some (.d (.raw (.string (kindW k)))) := by
  have : k = 1 ∨ k = 2 ∨ k = 3 := by omega
  rcases this with rfl | rfl | rfl <;> rfl
set_option maxRecDepth 100000 in
set_option maxHeartbeats 16000000 in
theorem declText_c (x : Dc) (hb : nodesE x.body ≤ 524288) (hf : fullE x.body = true) (hk : 1 ≤ x.kind ∧ x.kind ≤ 3) (hn : 0 < x.names.length ∧ x.names.length ≤ 1048576) (hid : inI64 x.id) (hj : (joinB (x.names.map nilS) [32, 124, 124, 32]).size ≤ 140737488355328) (hJ : (joinB (dParts x) [32]).size ≤ 140737488355327) :
    Con Tryz.prog 40 [avD x] (.d (.raw (.string (dLine x)))) := by
  have ct := text_c (nodesE x.body + 1) x.body (by omega) (by omega) hf
  have ci := itoa_c x.id hid
  have cj := join_c (x.names.map nilS) ⟨#[32, 124, 124, 32]⟩ (by rw [List.length_map]; omega) hj
  refine con_of Tryz.func40 rfl (by decide +kernel) rfl rfl (by simp [Tryz.ntmps40]) fun A hA => ?_
  rw [Tryz.ntmps40] at hA
  refine goC 20 ?_
  simp only [go_sem, hA, avD]
  refine satC_growTmp 99 3 1 9 (by simp only [go_sem]) rfl ?_
  refine goMid 300 [1, 3] [0] [99] (fun σ => σ = dpSt x (preA x)) ?_ ?_
  · cases hd : x.doubt with
    | false =>
      have hp : preA x = [] := by unfold preA; rw [hd]; rfl
      simp only [go_sem, hA, hp, dpSt, dcCell, hd]
      rfl
    | true =>
      have hp : preA x = [bs [99, 111, 110, 102, 108, 105, 99, 116]] := by unfold preA; rw [hd]; rfl
      simp only [go_sem, hA, hp, dpSt, dcCell, hd]
      exact ⟨⟨encS_fit [bs [99, 111, 110, 102, 108, 105, 99, 116]], fun r hr => by cases hr⟩, rfl⟩
  rintro σ rfl
  have la : (preA x).length ≤ 1 := by unfold preA; split <;> simp
  refine goMid 300 [1, 3] [0] [99] (fun σ => σ = dpSt x (preD x)) ?_ ?_
  · cases hd : x.pub with
    | false =>
      have hp : preD x = preA x := by unfold preD; rw [hd]; simp [preA]
      simp only [go_sem, hA, hp, dpSt, dcCell, hd]
    | true =>
      have hp : preD x = preA x ++ [bs [112, 117, 98]] := by unfold preD; rw [hd]; rfl
      simp only [go_sem, hA, hp, dpSt, dcCell, hd, encS_length]
      have hdp := dp_snoc x (preA x) (bs [112, 117, 98])
      simp only [dpSt, dcCell, hd] at hdp
      exact ⟨⟨encS_fit [bs [112, 117, 98]], encS_row _, by omega⟩, hdp⟩
  rintro σ rfl
  have lb : (preD x).length ≤ 2 := by unfold preD; rw [List.length_append]; split <;> split <;> simp
  have hin : inI64 (x.kind - 1) := by unfold inI64; omega
  have hw : IntKind.i64.wrap (x.kind - 1) = x.kind - 1 := wrapI64 hin
  refine goMid 5 [1, 3] [0] [99] (fun σ => σ = dpSt x (preD x ++ [kindW x.kind])) ?_ ?_
  · simp only [go_sem, hA, dpSt, dcCell]
    refine goStep 12 (by simp only [go_sem]) (opOk_buildArr (n := 3) (e := 9) (z := .agg #[.string ⟨#[]⟩, .string ⟨#[]⟩, .string ⟨#[]⟩]) (by rfl) (by kernel_rfl) (by kernel_rfl) (by rw [show Tryz.prog.cellsOf 9 = 1 by kernel_rfl]; decide) (by rfl)) (by simp only [go_sem, hA]) ?_
    simp only [go_sem, hA]
    refine ⟨hin, ?_⟩
    refine goStep 300 (by simp only [go_sem]) (opOk_indexArr (n := 3) (e := 9) (by rfl) (by kernel_rfl) (by rfl) (by rfl) (by kernel_rfl) (by kernel_rfl) (by omega) (by omega) (kindW_at hk)) (by simp only [go_sem, hA]) ?_
    simp only [go_sem, hA, encS_length]
    exact ⟨⟨encS_fit [kindW x.kind], encS_row _, by omega⟩, dp_snoc x _ _⟩
  rintro σ rfl
  refine goMid 300 [1, 3, 4] [0, 7002] [99] (fun σ => σ = dnSt2 x (preD x ++ [kindW x.kind]) x.names) ?_ ?_
  · simp only [go_sem, hA, dpSt, dcCell]
    refine goClone 300 (me := 7002) (l := x.names) rfl rfl rfl rfl rfl (by omega) (by omega) (St.free_of (by simp only [go_sem])) (by simp only [go_sem, hA]) ?_
    simp only [go_sem, hA]
  rintro σ rfl
  refine goMid 300 [1, 3, 4] [0, 7002] [99] (fun σ => σ = dnSt2 x (preD x ++ [kindW x.kind]) (x.names.map nilS)) ?_ ?_
  · simp only [go_sem, hA, dnSt2, dcCell]
    refine satC_loop [1, 3, 4, 28, 29, 30] [0, 7002] [99] (fun y σ => ∃ q : Nat, q ≤ x.names.length ∧ y = x.names.length - q ∧ σ = dtSt x (preD x ++ [kindW x.kind]) q) x.names.length ⟨0, by omega, by omega, by simp only [go_sem, dtSt, nmR_zero]⟩ ?_
    rintro y σ ⟨q, hq, rfl, rfl⟩
    refine goC 300 ?_
    by_cases hlt : q < x.names.length
    · have k1 : decide ((q : Int) < (x.names.length : Int)) = true := decide_eq_true (by omega)
      have hat := nmR_at x.names q hlt
      have hnl := nmR_length x.names q
      by_cases hz : x.names[q] = ⟨#[]⟩
      · have k2 : decide (x.names[q] = ⟨#[]⟩) = true := decide_eq_true hz
        have hset := nmR_set x.names q hlt hz
        simp only [go_sem, hA, dtSt, dcCell, k1, k2, Int.toNat_natCast, hat, encS_length, hnl, hset]
        exact ⟨⟨by omega, by omega⟩, hlt, ⟨by omega, by omega⟩, hlt, by unfold inI64; omega, x.names.length - (q + 1), by omega, q + 1, by omega, rfl, rfl⟩
      · have k2 : decide (x.names[q] = ⟨#[]⟩) = false := decide_eq_false hz
        have hkeep := nmR_keep x.names q hlt hz
        simp only [go_sem, hA, dtSt, dcCell, k1, k2, Int.toNat_natCast, hat, encS_length, hnl]
        exact ⟨⟨by omega, by omega⟩, hlt, by unfold inI64; omega, x.names.length - (q + 1), by omega, q + 1, by omega, rfl, by rw [hkeep]; rfl⟩
    · have k1 : decide ((q : Int) < (x.names.length : Int)) = false := decide_eq_false (by omega)
      obtain rfl : q = x.names.length := by omega
      simp only [go_sem, hA, dtSt, dcCell, k1, nmR_all]
  rintro σ rfl
  have lm : (preD x ++ [kindW x.kind]).length ≤ 3 := by rw [List.length_append]; simp only [List.length_cons, List.length_nil]; omega
  refine goMid 300 [1, 3] [0] [99] (fun σ => σ = dpSt x (midD x)) ?_ ?_
  · have hm : midD x = preD x ++ [kindW x.kind] ++ [joinB (x.names.map nilS) [32, 124, 124, 32]] := rfl
    have htk : (encS (x.names.map nilS)).take x.names.length = encS (x.names.map nilS) := List.take_of_length_le (by rw [encS_length, List.length_map]; omega)
    simp only [go_sem, hA, dnSt2, dcCell]
    refine goFrz 7002 ?_
    simp only [go_sem, encS_length, List.length_map]
    refine goCall 300 cj rfl rfl (by simp only [go_sem, hA]) ?_
    simp only [go_sem, hA, encS_length, hm]
    exact ⟨⟨encS_fit [_], encS_row _, by omega⟩, dp_snoc x _ _⟩
  rintro σ rfl
  have lm2 : (midD x).length ≤ 4 := by rw [show midD x = (preD x ++ [kindW x.kind]) ++ [joinB (x.names.map nilS) [32, 124, 124, 32]] from rfl, List.length_append]; exact Nat.succ_le_succ lm
  refine goMid 300 [1, 3] [0] [99] (fun σ => σ = dpSt x (midA x)) ?_ ?_
  · by_cases h0 : x.id = 0
    · have k0 : (decide ¬ x.id = 0) = false := decide_eq_false (fun h => h h0)
      have hm : midA x = midD x := by unfold midA; rw [if_pos h0, List.append_nil]
      simp only [go_sem, hA, dpSt, dcCell, k0, hm]
    · have k0 : (decide ¬ x.id = 0) = true := decide_eq_true h0
      have hm : midA x = midD x ++ [bs [64] ++ itoaB x.id] := by unfold midA; rw [if_neg h0]
      have hs := itoaB_size x.id hid
      have z1 : (ByteArray.mk #[64]).size = 1 := rfl
      simp only [go_sem, hA, dpSt, dcCell, k0, hm]
      refine goCall 300 ci rfl rfl (by simp only [go_sem, hA]) ?_
      simp only [go_sem, hA, encS_length, z1]
      exact ⟨by omega, ⟨encS_fit [bs [64] ++ itoaB x.id], encS_row _, by omega⟩, dp_snoc x _ _⟩
  rintro σ rfl
  have lm3 : (midA x).length ≤ 5 := by unfold midA; rw [List.length_append]; split <;> simp <;> omega
  refine goMid 300 [1, 3] [0] [99] (fun σ => σ = dpSt x (dParts x)) ?_ ?_
  · have hm : dParts x = midA x ++ [bs [61], txE x.body, bs [59]] := rfl
    simp only [go_sem, hA, dpSt, dcCell]
    refine goCallD 300 texts_c rfl rfl (by simp only [go_sem, hA]) ?_
    simp only [go_sem]
    refine goCallD 300 ct rfl (by simp only [go_sem, avE_eq]; rfl) (by simp only [go_sem, hA]) ?_
    simp only [go_sem, hA, encS_length]
    exact ⟨rfl, ⟨encS_fit [bs [61], txE x.body, bs [59]], encS_row _, by omega⟩, rfl, by show chk _ _ _ = true; kernel_rfl, by rw [hm]; exact dp_app x (midA x) [bs [61], txE x.body, bs [59]]⟩
  rintro σ rfl
  refine goC 300 ?_
  have lm4 : (dParts x).length ≤ 8 := by
    have hm : dParts x = midA x ++ [bs [61], txE x.body, bs [59]] := rfl
    rw [hm, List.length_append]; simp only [List.length_cons, List.length_nil]; omega
  have cj2 := join_c (dParts x) ⟨#[32]⟩ (by omega) (by exact Nat.le_trans hJ (by decide))
  simp only [go_sem, hA, dpSt, dcCell]
  refine goCall 300 cj2 rfl rfl (by simp only [go_sem, hA]) ?_
  have z1 : (ByteArray.mk #[10]).size = 1 := rfl
  simp only [go_sem, hA, z1, Tryz.results40]
  exact ⟨by have : (joinB (dParts x) [32]).size ≤ 140737488355327 := hJ; omega, rfl⟩
end Go.Proofs.YtnphcjpccieljaaGreatDoor

namespace Go.Proofs.YtnphcjpccieljaaGreatDoor
open Go Go.RowKit
def upT (x : Sr) (q : Nat) : List UInt8 := catL ((x.uses.take q).map useB)
def dpT (x : Sr) (q : Nat) : List UInt8 := catL (x.uses.map useB ++ (x.decls.take q).map dLine)
theorem upT_succ (x : Sr) (q : Nat) (h : q < x.uses.length) : upT x (q + 1) = upT x q ++ (useB x.uses[q]).data.toList := by
  unfold upT
  rw [List.take_succ_eq_append_getElem h, List.map_append, catL_append, List.map_cons, List.map_nil, catL_one]
theorem dpT_zero (x : Sr) : dpT x 0 = upT x x.uses.length := by simp [dpT, upT]
theorem dpT_succ (x : Sr) (q : Nat) (h : q < x.decls.length) : dpT x (q + 1) = dpT x q ++ (dLine x.decls[q]).data.toList := by
  unfold dpT
  rw [List.take_succ_eq_append_getElem h, List.map_append, ← List.append_assoc, catL_append, List.map_cons, List.map_nil, catL_one]
theorem dpT_all (x : Sr) : dpT x x.decls.length = catL (srcParts x) := by simp [dpT, srcParts]
theorem upT_le {x : Sr} (h : OkSr x) (q : Nat) : (upT x q).length ≤ 1940 := by
  have h1 := h.uses_size
  have h2 := sumB_take (x.uses.map useB) q
  unfold upT
  rw [catL_length, List.map_take]
  omega
theorem dpT_mono (x : Sr) (q : Nat) : (dpT x q).length ≤ (catL (srcParts x)).length := by
  unfold dpT srcParts
  rw [catL_append, catL_append, List.length_append, List.length_append, catL_length ((x.decls.take q).map dLine), catL_length (x.decls.map dLine), List.map_take]
  have := sumB_take (x.decls.map dLine) q
  omega
abbrev bt1St (x : Sr) (c0 : AV) (q : Nat) (l : List UInt8) : St := ⟨[(1, .box 0 0), (5, .box 4000 0), (16, .d (.sl (encS x.uses))), (17, .d (.raw (.int .i64 x.uses.length))), (18, .d (.raw (.int .i64 q)))],
  [(0, some (.cell 25 [.d (.sl (encS x.uses)), .d (.sl (encDs x.decls))])), (4000, some (.cell 61 [c0, .grow 99 (bytesR l)]))], [(99, some ⟨1, 5, l.length⟩)]⟩
abbrev bt2St (x : Sr) (c0 : AV) (q : Nat) (l : List UInt8) : St := ⟨[(1, .box 0 0), (5, .box 4000 0), (28, .d (.sl (encDs x.decls))), (29, .d (.raw (.int .i64 x.decls.length))), (30, .d (.raw (.int .i64 q)))],
  [(0, some (.cell 25 [.d (.sl (encS x.uses)), .d (.sl (encDs x.decls))])), (4000, some (.cell 61 [c0, .grow 99 (bytesR l)]))], [(99, some ⟨1, 5, l.length⟩)]⟩
set_option maxRecDepth 100000 in
set_option maxHeartbeats 16000000 in
theorem stext_c (x : Sr) (hb : ∀ d ∈ x.decls, nodesE d.body ≤ 524288) : Con Tryz.prog 13 [avS x] (.tup [.d (.raw (.string (textX x).1)), .d (.raw (.int .i64 (textX x).2))]) := by
  have cs := ssource_c x hb
  refine con_of Tryz.func13 rfl (by decide +kernel) rfl rfl (by simp [Tryz.ntmps13]) fun A hA => ?_
  rw [Tryz.ntmps13] at hA
  refine goC 400 ?_
  simp only [go_sem, hA, avS]
  refine goCall 300 cs rfl (by simp only [go_sem, avS]) (by simp only [go_sem, hA]) ?_
  by_cases h : srcX sdeclX x = 0
  case neg =>
    have g1 : (decide ¬ srcX sdeclX x = 0) = true := decide_eq_true h
    have hx : textX x = (⟨#[]⟩, srcX sdeclX x) := if_neg h
    simp only [go_sem, hA, g1, hx, Tryz.results13]
  have g1 : (decide ¬ srcX sdeclX x = 0) = false := decide_eq_false (fun h' => h' h)
  have ok := src_ok h
  have hx : textX x = if 65536 < (catL (srcParts x)).length then (⟨#[]⟩, 4) else (⟨(catL (srcParts x)).toArray⟩, 0) := if_pos h
  have hul := ok.uses
  have hdl := ok.decls
  simp only [go_sem, hA, g1, encS_length]
  refine satC_growCell 99 4000 1 1 5 (by simp only [go_sem]) rfl rfl ?_
  refine satC_loop [1, 5, 16, 17, 18] [0, 4000] [99] (fun y σ => ∃ (q : Nat) (c0 : AV), q ≤ x.uses.length ∧ y = x.uses.length - q ∧ (c0 = .d (.raw (.pointer none)) ∨ c0 = .box 4000 0) ∧ σ = bt1St x c0 q (upT x q)) x.uses.length ⟨0, _, by omega, by omega, .inl rfl, by simp only [go_sem, upT, List.take_zero, List.map_nil, catL_nil]; rfl⟩ ?_
  rintro y σ ⟨q, c0, hq, rfl, hc0, rfl⟩
  have hul1 := upT_le ok q
  refine goC 300 ?_
  by_cases hlt : q < x.uses.length
  · have k1 : decide ((q : Int) < (x.uses.length : Int)) = true := decide_eq_true (by omega)
    have hsucc := upT_succ x q hlt
    have hls := label_size (ok.lab _ (List.getElem_mem hlt))
    have hul2 := upT_le ok (q + 1)
    have zu : (ByteArray.mk #[117, 115, 101, 32]).size = 4 := rfl
    have zs : (ByteArray.mk #[32, 59, 10]).size = 3 := rfl
    have hsz : (useB x.uses[q]).size = x.uses[q].size + 7 := by simp only [useB, ba_size, bs_size, List.length_cons, List.length_nil]; omega
    simp only [go_sem, hA, bt1St, encS_length, k1, Int.toNat_natCast, encS_at x.uses q hlt]
    refine ⟨⟨by omega, by omega⟩, by omega, by omega, ?_⟩
    refine goWrite 300 (c0 := c0) (l := upT x q) (s := useB x.uses[q]) rfl rfl rfl rfl rfl rfl rfl hc0 rfl (by omega) (by simp only [go_sem, hA]) ?_
    simp only [go_sem, hA]
    have hA2 : (upT x q).length + (useB x.uses[q]).size = (upT x (q + 1)).length := by rw [hsucc, List.length_append]; rfl
    exact ⟨by unfold inI64; omega, x.uses.length - (q + 1), by omega, q + 1, .box 4000 0, by omega, rfl, .inr rfl, by rw [hA2, ← hsucc]; rfl⟩
  have k1 : decide ((q : Int) < (x.uses.length : Int)) = false := decide_eq_false (by omega)
  obtain rfl : q = x.uses.length := by omega
  simp only [go_sem, hA, bt1St, encDs_length, k1]
  refine satC_loop [1, 5, 28, 29, 30] [0, 4000] [99] (fun y σ => ∃ (q : Nat) (c0 : AV), q ≤ x.decls.length ∧ y = x.decls.length - q ∧ (c0 = .d (.raw (.pointer none)) ∨ c0 = .box 4000 0) ∧ (dpT x q).length ≤ 65536 ∧ σ = bt2St x c0 q (dpT x q)) x.decls.length ⟨0, c0, by omega, by omega, hc0, by rw [dpT_zero]; omega, by simp only [go_sem, dpT_zero]; rfl⟩ ?_
  clear hc0 hul1
  rintro y σ ⟨q, c0, hq, rfl, hc0, hle, rfl⟩
  refine goC 300 ?_
  by_cases hlt : q < x.decls.length
  · have k1 : decide ((q : Int) < (x.decls.length : Int)) = true := decide_eq_true (by omega)
    obtain ⟨d, hd⟩ : ∃ d, x.decls[q] = d := ⟨_, rfl⟩
    have hdm : d ∈ x.decls := by rw [← hd]; exact List.getElem_mem hlt
    have okd := ok.dec d hdm
    have hsucc := dpT_succ x q hlt
    have hls := okd.line_size
    have hmono := dpT_mono x (q + 1)
    have ct := declText_c d (hb d hdm) (checkX_full okd.chk okd.ref) okd.kind (by have := okd.len; omega) (by have := okd.id; unfold inI64; omega) (by
      have h1 := namesB_size d.names
      have h2 := okd.nmsum
      have h3 := okd.len
      unfold namesB at h1
      omega) (by have := okd.size; omega)
    simp only [go_sem, hA, bt2St, encDs_length, k1, Int.toNat_natCast, encDs_at x.decls q hlt, hd, encD]
    refine ⟨⟨by omega, by omega⟩, by rcases hc0 with rfl | rfl <;> rfl, ?_⟩
    refine goCall 300 ct rfl (by simp only [go_sem, avD]) (by simp only [go_sem, hA]) ?_
    simp only [go_sem]
    refine goWrite 300 (c0 := c0) (l := dpT x q) (s := dLine d) rfl rfl rfl rfl rfl rfl rfl hc0 rfl (by omega) (by simp only [go_sem, hA]) ?_
    simp only [go_sem]
    rw [hd] at hsucc
    have hA2 : (dpT x q).length + (dLine d).size = (dpT x (q + 1)).length := by rw [hsucc, List.length_append]; rfl
    rw [hA2, ← hsucc]
    refine goLen 300 (c0 := .box 4000 0) (l := dpT x (q + 1)) rfl rfl rfl rfl rfl rfl (.inr rfl) rfl (by simp only [go_sem, hA]) ?_
    by_cases hgt : 65536 < (dpT x (q + 1)).length
    · have k2 : decide ((65536 : Int) < ((dpT x (q + 1)).length : Int)) = true := decide_eq_true (by omega)
      rw [if_pos (by omega)] at hx
      simp only [go_sem, hA, k2, hx, Tryz.results13]
    · have k2 : decide ((65536 : Int) < ((dpT x (q + 1)).length : Int)) = false := decide_eq_false (by omega)
      simp only [go_sem, hA, k2]
      exact ⟨by unfold inI64; omega, x.decls.length - (q + 1), by omega, q + 1, .box 4000 0, by omega, rfl, .inr rfl, by omega, rfl⟩
  have k1 : decide ((q : Int) < (x.decls.length : Int)) = false := decide_eq_false (by omega)
  obtain rfl : q = x.decls.length := by omega
  rw [dpT_all] at hle
  rw [if_neg (by omega)] at hx
  simp only [go_sem, hA, bt2St, k1]
  refine goString 300 (c0 := c0) (l := dpT x x.decls.length) rfl rfl rfl rfl rfl rfl hc0 rfl (by simp only [go_sem, hA]) ?_
  simp only [go_sem, hA, dpT_all, hx, Tryz.results13]
end Go.Proofs.YtnphcjpccieljaaGreatDoor

namespace Go.Proofs.YtnphcjpccieljaaGreatDoor
open Go Go.RowKit
theorem goFrzO {P : Program} {A : Base P} {σ : St} (n r : Nat) {all rest : List Oper} {i base : Nat} {st : List Itm} {Q : Exit → St → Prop} (h : go P A n (.ops all rest i base) st (σ.frz r) Q) : SemM P A (.ops all rest i base) st σ Q := satO_frz r (go_ok n _ _ _ _ h)
def vE (s : ByteArray) : Ex := .mk 3 s ⟨#[]⟩ 0 0 []
theorem v_c (s : ByteArray) : Con Tryz.prog 38 [.d (.raw (.string s))] (avE (vE s)) := by
  refine con_of Tryz.func38 rfl (by decide +kernel) (by rfl) rfl (by simp [Tryz.ntmps38]) fun A hA => ?_
  rw [Tryz.ntmps38] at hA
  refine goC 300 ?_
  simp only [go_sem, hA, avE_eq, vE, Tryz.results38]
  rfl
def awB : Ex := .mk 6 ⟨#[120]⟩ ⟨#[]⟩ 0 0 [.mk 10 ⟨#[43]⟩ ⟨#[]⟩ 0 0 [vE ⟨#[120]⟩, .mk 1 ⟨#[]⟩ ⟨#[]⟩ 1 0 []]]
def awS : Sr := ⟨[⟨#[97, 47, 108, 105, 115, 116]⟩], [⟨7, 1, true, [⟨#[102]⟩], false, awB⟩]⟩
def awF : Ex := .mk 8 ⟨#[120]⟩ ⟨#[]⟩ 0 0 [vE ⟨#[120]⟩, .mk 7 ⟨#[]⟩ ⟨#[]⟩ 0 0 [vE ⟨#[121]⟩, vE ⟨#[120]⟩]]
def awT : ByteArray := ⟨#[117, 115, 101, 32, 97, 47, 108, 105, 115, 116, 32, 59, 10, 112, 117, 98, 32, 108, 101, 116, 32, 102, 32, 64, 55, 32, 61, 32, 40, 102, 117, 110, 32, 120, 32, 45, 62, 32, 40, 120, 32, 43, 32, 49, 41, 41, 32, 59, 10]⟩
theorem awF_free : sfreeX awF = [⟨#[120]⟩, ⟨#[121]⟩] := by
  rw [sfreeX_eq]
  decide +kernel
theorem itoa_1 : Lib.itoa 1 = [49] := by rw [itoa_less (by decide)]; rfl
theorem itoa_7 : Lib.itoa 7 = [55] := by rw [itoa_less (by decide)]; rfl
theorem awS_src : srcX sdeclX awS = 0 := by decide +kernel
theorem awS_text : textX awS = (awT, 0) := by
  have h : catL (srcParts awS) = awT.data.toList := by
    have e1 : txE awB = bs [40, 102, 117, 110, 32, 120, 32, 45, 62, 32, 40, 120, 32, 43, 32, 49, 41, 41] := by
      have e0 : itoaB 1 = bs [49] := by rw [itoaB, itoa_1]
      simp only [awB, vE, txE, txL, nodeText, Int.reduceEq, if_false, if_true, e0]
      decide +kernel
    have e2 : itoaB 7 = bs [55] := by rw [itoaB, itoa_7]
    simp only [srcParts, awS, List.map_cons, List.map_nil, dLine, dParts, midD, e1, e2, Int.reduceEq, if_false]
    decide +kernel
  unfold textX
  rw [if_pos awS_src, h, if_neg (by decide)]
set_option maxRecDepth 100000 in
set_option maxHeartbeats 16000000 in
theorem awake_c : Con Tryz.prog 12 [] (.d (.raw (.bool true))) := by
  have cx := v_c ⟨#[120]⟩
  have cy := v_c ⟨#[121]⟩
  have ct := stext_c awS (by decide +kernel)
  have cf := sFree_c awF (by decide +kernel) (by decide +kernel)
  have cs := rSameStrings_c [⟨#[120]⟩, ⟨#[121]⟩] [⟨#[120]⟩, ⟨#[121]⟩] (by decide)
  rw [awS_text] at ct
  rw [awF_free] at cf
  rw [sameS_refl] at cs
  refine con_of Tryz.func12 rfl (by decide +kernel) rfl rfl (by simp [Tryz.ntmps12]) fun A hA => ?_
  rw [Tryz.ntmps12] at hA
  refine goC 300 ?_
  simp only [go_sem, hA]
  refine goCall 300 cx rfl rfl (by simp only [go_sem, hA]) ?_
  simp only [go_sem, hA, avE_eq, vE, Ex.kind, Ex.name, Ex.more, Ex.int, Ex.den, Ex.sub, encL]
  refine goCall 300 ct rfl (by simp only [go_sem]; rfl) (by simp only [go_sem, hA]) ?_
  simp only [go_sem, hA]
  refine goCall 300 cx rfl rfl (by simp only [go_sem, hA]) ?_
  simp only [go_sem, avE_eq, vE, Ex.kind, Ex.name, Ex.more, Ex.int, Ex.den, Ex.sub, encL]
  refine goCall 300 cy rfl rfl (by simp only [go_sem, hA]) ?_
  simp only [go_sem, avE_eq, vE, Ex.kind, Ex.name, Ex.more, Ex.int, Ex.den, Ex.sub, encL]
  refine goCall 300 cx rfl rfl (by simp only [go_sem, hA]) ?_
  simp only [go_sem, hA, avE_eq, vE, Ex.kind, Ex.name, Ex.more, Ex.int, Ex.den, Ex.sub, encL]
  refine goCall 300 cf rfl (by simp only [go_sem]; rfl) (by simp only [go_sem, hA]) ?_
  have k1 : decide (awT = ⟨#[117, 115, 101, 32, 97, 47, 108, 105, 115, 116, 32, 59, 10, 112, 117, 98, 32, 108, 101, 116, 32, 102, 32, 64, 55, 32, 61, 32, 40, 102, 117, 110, 32, 120, 32, 45, 62, 32, 40, 120, 32, 43, 32, 49, 41, 41, 32, 59, 10]⟩) = true := by decide +kernel
  simp only [go_sem, hA, k1]
  refine goCall 300 cs rfl (by simp only [go_sem]; rfl) (by simp only [go_sem, hA]) ?_
  simp only [go_sem, hA, Tryz.results12]
end Go.Proofs.YtnphcjpccieljaaGreatDoor
