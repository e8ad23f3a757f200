/- SyntaxLines: the law walked. -/
import Derived.Test.YtnphcjpccieljaaGreatDoorGGr
import Derived.Test.YtnphcjpccieljaaGreatDoorSyLd
import Derived.Test.YtnphcjpccieljaaGreatDoorScC
import Derived.Test.YtnphcjpccieljaaGreatDoorGLxD
namespace Go.Proofs.YtnphcjpccieljaaGreatDoor
open Go Go.RowKit
theorem con_ss {P : Program} {f : FuncId} {s p : ByteArray} {r : Value} (he : Enters P f) (h : ∀ (w : World), Calls P f #[.string s, .string p] w fun e w' => e = .returned r ∧ w' = w) : Con P f [.d (.raw (.string s)), .d (.raw (.string p))] (.d (.raw r)) := by
  refine ⟨he, rfl, fun F w vs hF _ hl hv => ?_⟩
  match vs, hl with
  | [v, v'], _ =>
    have h0 := hv 0 (by simp) (by simp)
    have h1 := hv 1 (by simp) (by simp)
    simp only [List.getElem_cons_zero, List.getElem_cons_succ] at h0 h1
    unfold HasC at h0 h1
    rw [h0.raw_eq, h1.raw_eq]
    exact (h w).mono fun e w' h' => ⟨_, h'.1, .d (.raw _), h'.2 ▸ Below.refl _ _⟩
theorem hasSuffix_c (s p : ByteArray) (hs : s.size ≤ 9223372036854775807) : Con Tryz.prog 34 [.d (.raw (.string s)), .d (.raw (.string p))] (.d (.raw (.bool (Lib.hasSuffix s.data.toList p.data.toList)))) :=
  con_ss ⟨_, Tryz.func34, by decide +kernel, rfl⟩ fun w => Tryz.strings_HasSuffix s p w hs
theorem hasPrefix_c (s p : ByteArray) : Con Tryz.prog 35 [.d (.raw (.string s)), .d (.raw (.string p))] (.d (.raw (.bool (Lib.hasPrefix s.data.toList p.data.toList)))) :=
  con_ss ⟨_, Tryz.func35, by decide +kernel, rfl⟩ fun w => Tryz.strings_HasPrefix s p w
theorem suffix_app (a b : List UInt8) : Lib.hasSuffix (a ++ b) b = true := by
  unfold Lib.hasSuffix
  rw [List.isSuffixOf_iff_suffix]
  exact List.suffix_append a b
theorem dBare_conflict (x : Dc) : Lib.hasPrefix (dBare x) [99, 111, 110, 102, 108, 105, 99, 116, 32] = x.doubt := by
  rw [dBare_eq]
  cases x.doubt with
  | true =>
    unfold Lib.hasPrefix
    rw [List.isPrefixOf_iff_prefix]
    exact ⟨_, rfl⟩
  | false =>
    cases x.pub with
    | true => rfl
    | false =>
      unfold kW
      split
      · rfl
      · split <;> rfl
theorem dHead_space (x : Dc) : ∃ Y, dHead x = Y ++ [32] := by
  unfold dHead idL
  split
  · exact ⟨preW x.doubt wConflict ++ (preW x.pub wPub ++ (kW x.kind ++ ([32] ++ namesL x.names))), by simp⟩
  · exact ⟨preW x.doubt wConflict ++ (preW x.pub wPub ++ (kW x.kind ++ ([32] ++ (namesL x.names ++ ([32] ++ ([64] ++ Lib.itoa x.id)))))), by simp⟩
theorem dBare_suffix (x : Dc) : Lib.hasSuffix (dBare x) ([32, 61, 32] ++ (tx x.body ++ [32, 59])) = true := by
  obtain ⟨Y, h⟩ := dHead_space x
  have e : dBare x = Y ++ ([32, 61, 32] ++ (tx x.body ++ [32, 59])) := by unfold dBare; rw [h]; simp
  rw [e]
  exact suffix_app _ _
theorem linesS_length (x : Sr) : (linesS x).length = x.uses.length + x.decls.length := by simp [linesS]
theorem linesS_use {x : Sr} {q : Nat} (h : q < x.uses.length) (h' : q < (linesS x).length) : (linesS x)[q] = uLine x.uses[q] := by
  simp [linesS, List.getElem_append_left, h]
theorem linesS_decl {x : Sr} {q : Nat} (h : ¬ q < x.uses.length) (h2 : q - x.uses.length < x.decls.length) (h' : q < (linesS x).length) : (linesS x)[q] = dBare x.decls[q - x.uses.length] := by
  simp [linesS, List.getElem_append_right, Nat.not_lt.1 h]
theorem line_le {L : List (List UInt8)} {x : List UInt8} (h : x ∈ L) : x.length ≤ (L.map (· ++ [10])).flatten.length := by
  induction L with
  | nil => cases h
  | cons y L ih =>
    rw [List.map_cons, List.flatten_cons, List.length_append, List.length_append]
    rcases List.mem_cons.1 h with rfl | h
    · omega
    · have := ih h; omega
theorem exprX_of {t : Ex} (h : checkX t = 0) (h5 : kindsE 5 t = false) (hs : (txE t).size ≤ 65536) : exprX t = (txE t, 0) := by
  unfold exprX
  rw [if_pos h, if_neg (by rw [h5]; decide), if_neg (by omega)]
theorem scanX_of {l : List UInt8} {ts : List KT} (h : Sc l ts []) (hl : l.length ≤ 65536) : ∃ us, scanX (bsL l) = (us, 0, 0) := by
  obtain ⟨us, hs, _⟩ := sc_scan h
  refine ⟨us, ?_⟩
  have hz : (bsL l).size = l.length := by simp [ByteArray.size]
  have hd : (bsL l).data.toList = l := by simp
  unfold scanX
  rw [if_neg (by omega), hd, hs]
abbrev lnSt (x : Sr) (L : List ByteArray) (q : Nat) : St := ⟨[(1, .box 0 0), (55, .d (.sl (encS L))), (56, .d (.raw (.int .i64 L.length))), (57, .d (.raw (.int .i64 q)))],
  [(0, some (.cell 25 [.d (.sl (encS x.uses)), .d (.sl (encDs x.decls))]))], []⟩
set_option maxRecDepth 100000 in
set_option maxHeartbeats 16000000 in
theorem lawLines_c (x : Sr) (hb : ∀ d ∈ x.decls, nodesE d.body ≤ 1048576) : Con Tryz.prog 10 [avS x] (.d (.raw (.bool true))) := by
  have cg := rGreatSource_c x hb
  refine con_of Tryz.func10 rfl (by decide +kernel) rfl rfl (by simp [Tryz.ntmps10]) fun A hA => ?_
  rw [Tryz.ntmps10] at hA
  refine goC 400 ?_
  simp only [go_sem, hA, avS]
  refine goCall 300 cg rfl (by simp only [go_sem, avS]) (by simp only [go_sem, hA]) ?_
  cases h1 : greatS x with
  | true =>
    simp only [go_sem]
    refine goCall 300 awake_c rfl rfl (by simp only [go_sem, hA]) ?_
    simp only [go_sem, hA, Tryz.results10]
  | false =>
  have hn := greatS_nodes h1
  obtain ⟨n1, n2, n3⟩ := greatS_names h1
  have ct := stext_c x fun d hd => by have := hn d hd; omega
  simp only [go_sem, hA]
  refine goCall 300 ct rfl (by simp only [go_sem, avS]) (by simp only [go_sem, hA]) ?_
  by_cases h3 : (textX x).2 = 0
  case neg =>
    have k1 : (decide ¬ (textX x).2 = 0) = true := decide_eq_true h3
    have e1 := textX_bad h3
    simp only [go_sem, hA, k1, e1]
    refine goCall 300 awake_c rfl rfl (by simp only [go_sem, hA]) ?_
    simp only [go_sem, hA, Tryz.results10]
  have k1 : (decide ¬ (textX x).2 = 0) = false := decide_eq_false (fun h => h h3)
  obtain ⟨va, ta, tz⟩ := textX_ok h3
  have hz : (⟨(catL (srcParts x)).toArray⟩ : ByteArray).size = (catL (srcParts x)).length := by simp [ByteArray.size]
  have csp := split_c ⟨(catL (srcParts x)).toArray⟩ 10 (by omega)
  obtain ⟨s1, s2⟩ := split_lines (linesS x) (noNL_lines va)
  rw [← srcParts_lines va] at s1 s2
  have hp : pieces 10 (List.count 10 (catL (srcParts x))) (catL (srcParts x)) = (linesS x).map bsL ++ [⟨#[]⟩] := by
    rw [← Lib.count_one, s1]
    unfold pieces
    rw [s2, List.map_append]; rfl
  rw [show (⟨(catL (srcParts x)).toArray⟩ : ByteArray).data.toList = catL (srcParts x) by simp, hp] at csp
  have hll := linesS_length x
  have hml : ((linesS x).map bsL ++ [(⟨#[]⟩ : ByteArray)]).length = x.uses.length + x.decls.length + 1 := by simp [hll]
  have hlast : (encS ((linesS x).map bsL ++ [⟨#[]⟩])).getD (x.uses.length + x.decls.length) [] = [.raw (.string ⟨#[]⟩)] := by
    rw [encS_at _ _ (by omega)]
    simp [List.getElem_append_right, hll]
  have htk : (encS ((linesS x).map bsL ++ [⟨#[]⟩])).take (x.uses.length + x.decls.length) = encS ((linesS x).map bsL) := by
    rw [encS_take, List.take_left' (by simp [hll])]
  have k2 : (decide ¬ ((x.uses.length + x.decls.length + 1 : Nat) : Int) = (x.uses.length : Int) + (x.decls.length : Int) + 1) = false := decide_eq_false (fun h => h (by omega))
  have e2 : ((x.uses.length + x.decls.length + 1 : Nat) : Int) - 1 = ((x.uses.length + x.decls.length : Nat) : Int) := by omega
  simp only [go_sem, hA, k1, ta]
  refine goCall 300 csp rfl (by simp only [go_sem]) (by simp only [go_sem, hA]) ?_
  simp only [go_sem, hA, encS_length, encDs_length, hml, k2, e2, Int.toNat_natCast, hlast, htk]
  have hLl : ((linesS x).map bsL).length = x.uses.length + x.decls.length := by rw [List.length_map, hll]
  refine ⟨by unfold inI64; omega, by unfold inI64; omega, by unfold inI64; omega, ⟨by omega, by omega⟩, by unfold inI64; omega, ⟨encS_row _, by omega, by omega⟩, ?_⟩
  have hline : ∀ q (h : q < (linesS x).length), (linesS x)[q].length ≤ 65536 := fun q h => by
    have := line_le (List.getElem_mem h)
    rw [← srcParts_lines va] at this; omega
  obtain ⟨LL, hLL⟩ : ∃ LL, (linesS x).map bsL = LL := ⟨_, rfl⟩
  have hget : ∀ q (h : q < LL.length) (h' : q < (linesS x).length), LL[q] = bsL (linesS x)[q] := fun q h h' => by subst hLL; simp
  rw [hLL] at hLl
  rw [hLL]
  refine satC_loop [1, 55, 56, 57] [0] [] (fun y σ => ∃ q : Nat, q ≤ LL.length ∧ y = LL.length - q ∧ σ = lnSt x LL q) LL.length ⟨0, by omega, by omega, by simp only [go_sem, lnSt]⟩ ?_
  rintro y σ ⟨q, hq, rfl, rfl⟩
  refine goC 300 ?_
  by_cases hlt : q < LL.length
  case neg =>
    have k3 : decide ((q : Int) < (LL.length : Int)) = false := decide_eq_false (by omega)
    simp only [go_sem, hA, lnSt, k3]
    refine goCall 300 awake_c rfl rfl (by simp only [go_sem, hA]) ?_
    simp only [go_sem, hA, Tryz.results10]
  have k3 : decide ((q : Int) < (LL.length : Int)) = true := decide_eq_true (by omega)
  have hq2 : q < (linesS x).length := by omega
  have hl0 := hline q hq2
  have hg := hget q hlt hq2
  have k0 : (decide ¬ (0 : Int) = 0) = false := rfl
  by_cases hu : q < x.uses.length
  · rw [linesS_use hu hq2] at hg hl0
    obtain ⟨us, hsc⟩ := scanX_of (sc_uLine (va.lab _ (List.getElem_mem hu)) []) hl0
    have csc := scan_c (bsL (uLine x.uses[q]))
    rw [hsc] at csc
    have hsz : (bsL (uLine x.uses[q])).size = (uLine x.uses[q]).length := by simp [ByteArray.size]
    have csu := hasSuffix_c (bsL (uLine x.uses[q])) ⟨#[32, 59]⟩ (by omega)
    have hsu : Lib.hasSuffix (bsL (uLine x.uses[q])).data.toList (⟨#[32, 59]⟩ : ByteArray).data.toList = true := by
      have e : (bsL (uLine x.uses[q])).data.toList = (wUse ++ ([32] ++ x.uses[q].data.toList)) ++ [32, 59] := by simp [uLine]
      rw [e]
      exact suffix_app _ _
    rw [hsu] at csu
    have k4 : decide ((q : Int) < (x.uses.length : Int)) = true := decide_eq_true (by omega)
    have hus := label_size (va.lab _ (List.getElem_mem hu))
    have k5 : (decide ¬ bsL (uLine x.uses[q]) = (⟨#[117, 115, 101, 32]⟩ : ByteArray) ++ x.uses[q] ++ (⟨#[32, 59]⟩ : ByteArray)) = false := by
      refine decide_eq_false fun h => h ?_
      apply ba_inj
      rw [ba_app, ba_app]
      simp [uLine, wUse]
    simp only [go_sem, hA, lnSt, k3, encS_length, Int.toNat_natCast, encS_at LL q hlt, hg]
    refine ⟨⟨by omega, by omega⟩, ?_⟩
    refine goCall 300 csc rfl (by simp only [go_sem]) (by simp only [go_sem, hA]) ?_
    simp only [go_sem, hA]
    refine goCall 300 csu rfl (by simp only [go_sem]) (by simp only [go_sem, hA]) ?_
    simp only [go_sem, hA, k4, encS_length, Int.toNat_natCast, encS_at x.uses q hu, k5]
    exact ⟨⟨by omega, by omega⟩, by omega, by omega, by unfold inI64; omega, LL.length - (q + 1), by omega, q + 1, by omega, rfl, rfl⟩
  · have hdl : q - x.uses.length < x.decls.length := by omega
    rw [linesS_decl hu hdl hq2] at hg hl0
    obtain ⟨d, hd⟩ : ∃ d, x.decls[q - x.uses.length] = d := ⟨_, rfl⟩
    have hmem : d ∈ x.decls := by rw [← hd]; exact List.getElem_mem hdl
    have vd := va.dec d hmem
    have hnd := hn d hmem
    rw [hd] at hg hl0
    obtain ⟨us, hsc⟩ := scanX_of (sc_dBare vd []) hl0
    have csc := scan_c (bsL (dBare d))
    rw [hsc] at csc
    have hsz : (bsL (dBare d)).size = (dBare d).length := by simp [ByteArray.size]
    have hbd : (bsL (dBare d)).data.toList = dBare d := by simp
    have csu := hasSuffix_c (bsL (dBare d)) ⟨#[32, 59]⟩ (by omega)
    have hsu : Lib.hasSuffix (bsL (dBare d)).data.toList (⟨#[32, 59]⟩ : ByteArray).data.toList = true := by
      rw [hbd]
      have e : dBare d = (dHead d ++ ([61] ++ ([32] ++ tx d.body))) ++ [32, 59] := by simp [dBare]
      rw [e]
      exact suffix_app _ _
    rw [hsu] at csu
    have hts : (txE d.body).size ≤ 65536 := by
      have h1 : (tx d.body).length = (txE d.body).size := rfl
      have h2 : (tx d.body).length ≤ (dBare d).length := by unfold dBare; simp only [List.length_append]; omega
      omega
    have hex := exprX_of vd.chk vd.ref hts
    have cex := sExpr_c d.body (by omega) (fun h h5 => checkX_full h h5)
    rw [hex] at cex
    have csu2 := hasSuffix_c (bsL (dBare d)) ((⟨#[32, 61, 32]⟩ : ByteArray) ++ txE d.body ++ (⟨#[32, 59]⟩ : ByteArray)) (by omega)
    have hsu2 : Lib.hasSuffix (bsL (dBare d)).data.toList ((⟨#[32, 61, 32]⟩ : ByteArray) ++ txE d.body ++ (⟨#[32, 59]⟩ : ByteArray)).data.toList = true := by
      rw [hbd, ba_app, ba_app]
      have e : (⟨#[32, 61, 32]⟩ : ByteArray).data.toList ++ (txE d.body).data.toList ++ (⟨#[32, 59]⟩ : ByteArray).data.toList = [32, 61, 32] ++ (tx d.body ++ [32, 59]) := by simp [tx]
      rw [e]
      exact dBare_suffix d
    rw [hsu2] at csu2
    have cpr := hasPrefix_c (bsL (dBare d)) ⟨#[99, 111, 110, 102, 108, 105, 99, 116, 32]⟩
    have hpr : Lib.hasPrefix (bsL (dBare d)).data.toList (⟨#[99, 111, 110, 102, 108, 105, 99, 116, 32]⟩ : ByteArray).data.toList = d.doubt := by
      rw [hbd]; exact dBare_conflict d
    rw [hpr] at cpr
    have k4 : decide ((q : Int) < (x.uses.length : Int)) = false := decide_eq_false (by omega)
    have e5 : ((q : Int) - (x.uses.length : Int)).toNat = q - x.uses.length := by omega
    have k6 : (!(d.doubt == d.doubt)) = false := by simp
    simp only [go_sem, hA, lnSt, k3, encS_length, Int.toNat_natCast, encS_at LL q hlt, hg]
    refine ⟨⟨by omega, by omega⟩, ?_⟩
    refine goCall 300 csc rfl (by simp only [go_sem]) (by simp only [go_sem, hA]) ?_
    simp only [go_sem, hA]
    refine goCall 300 csu rfl (by simp only [go_sem]) (by simp only [go_sem, hA]) ?_
    simp only [go_sem, hA, k4, encS_length, encDs_length, e5, encDs_at x.decls _ hdl, hd, encD]
    refine ⟨by unfold inI64; omega, ⟨by omega, by omega⟩, ?_⟩
    refine goCall 300 cex rfl (by simp only [go_sem, avE_eq]) (by simp only [go_sem, hA]) ?_
    simp only [go_sem, hA, mixed]
    refine ⟨by omega, by omega, ?_⟩
    refine goCallD 300 csu2 rfl (by simp only [go_sem]) (by simp only [go_sem, hA]) ?_
    simp only [go_sem, hA]
    refine goCallD 300 cpr rfl (by simp only [go_sem]) (by simp only [go_sem, hA]) ?_
    simp only [go_sem, hA]
    exact ⟨by show chk _ _ _ = true; kernel_rfl, by unfold inI64; omega, LL.length - (q + 1), by omega, q + 1, by omega, rfl, rfl⟩
end Go.Proofs.YtnphcjpccieljaaGreatDoor
