/- SameSource of the reference; SyntaxDistinct: the law walked. -/
import Derived.Test.YtnphcjpccieljaaGreatDoorSyLc
import Derived.Test.YtnphcjpccieljaaGreatDoorGXv
import Derived.Test.YtnphcjpccieljaaGreatDoorGPm
namespace Go.Proofs.YtnphcjpccieljaaGreatDoor
open Go Go.RowKit
def sameDc (x y : Dc) : Bool := decide (x.id = y.id) && (decide (x.kind = y.kind) && ((x.pub == y.pub) && ((x.doubt == y.doubt) && (sameS x.names y.names && sameE x.body y.body))))
theorem sameDc_iff (x y : Dc) : sameDc x y = true ↔ x = y := by
  obtain ⟨a1, a2, a3, a4, a5, a6⟩ := x
  obtain ⟨b1, b2, b3, b4, b5, b6⟩ := y
  simp only [sameDc, Bool.and_eq_true, decide_eq_true_eq, beq_iff_eq, sameS_iff, sameE_iff, Dc.mk.injEq]
  exact ⟨fun ⟨h1, h2, h3, h4, h5, h6⟩ => ⟨h1, h2, h3, h5, h4, h6⟩, fun ⟨h1, h2, h3, h5, h4, h6⟩ => ⟨h1, h2, h3, h4, h5, h6⟩⟩
def sameDs : List Dc → List Dc → Bool
  | [], [] => true
  | x :: xs, y :: ys => sameDc x y && sameDs xs ys
  | _, _ => false
theorem sameDs_iff : ∀ a b : List Dc, sameDs a b = true ↔ a = b
  | [], [] => by simp [sameDs]
  | x :: xs, y :: ys => by simp only [sameDs, Bool.and_eq_true, sameDc_iff, sameDs_iff xs ys, List.cons.injEq]
  | [], y :: ys => by simp [sameDs]
  | x :: xs, [] => by simp [sameDs]
theorem sameDs_false {a b : List Dc} (h : a ≠ b) : sameDs a b = false := by
  cases hc : sameDs a b
  · rfl
  · exact absurd ((sameDs_iff a b).1 hc) h
def sameSr (x y : Sr) : Bool := sameS x.uses y.uses && sameDs x.decls y.decls
theorem sameSr_iff (x y : Sr) : sameSr x y = true ↔ x = y := by
  obtain ⟨a1, a2⟩ := x
  obtain ⟨b1, b2⟩ := y
  simp only [sameSr, Bool.and_eq_true, sameS_iff, sameDs_iff, Sr.mk.injEq]
set_option maxRecDepth 100000 in
set_option maxHeartbeats 8000000 in
theorem rSameDecl_c (x y : Dc) (hb : nodesE x.body ≤ 1048576) (hn : x.names.length ≤ 1048576) : Con Tryz.prog 79 [avD x, avD y] (.d (.raw (.bool (sameDc x y)))) := by
  have cs := rSameStrings_c x.names y.names hn
  have ce := rSame_c x.body y.body (by omega)
  refine con_of Tryz.func79 rfl (by decide +kernel) rfl rfl (by simp [Tryz.ntmps79]) fun A hA => ?_
  rw [Tryz.ntmps79] at hA
  refine goC 400 ?_
  have he : sameDc x y = (decide (x.id = y.id) && (decide (x.kind = y.kind) && ((x.pub == y.pub) && ((x.doubt == y.doubt) && (sameS x.names y.names && sameE x.body y.body))))) := rfl
  cases g1 : decide (x.id = y.id) with
  | false =>
    rw [g1] at he
    simp only [Bool.false_and] at he
    simp only [go_sem, hA, avD, g1, undef, he, Tryz.results79]
  | true =>
  cases g2 : decide (x.kind = y.kind) with
  | false =>
    rw [g1, g2] at he
    simp only [Bool.false_and, Bool.true_and] at he
    simp only [go_sem, hA, avD, g1, g2, undef, he, Tryz.results79]
  | true =>
  cases g3 : (x.pub == y.pub) with
  | false =>
    rw [g1, g2, g3] at he
    simp only [Bool.false_and, Bool.true_and] at he
    simp only [go_sem, hA, avD, g1, g2, g3, undef, he, Tryz.results79]
  | true =>
  cases g4 : (x.doubt == y.doubt) with
  | false =>
    rw [g1, g2, g3, g4] at he
    simp only [Bool.false_and, Bool.true_and] at he
    simp only [go_sem, hA, avD, g1, g2, g3, g4, undef, he, Tryz.results79]
  | true =>
  rw [g1, g2, g3, g4] at he
  simp only [Bool.true_and] at he
  simp only [go_sem, hA, avD, g1, g2, g3, g4]
  refine goCall 300 cs rfl (by simp only [go_sem]) (by simp only [go_sem, hA]) ?_
  cases g5 : sameS x.names y.names with
  | false =>
    rw [g5] at he
    simp only [Bool.false_and] at he
    simp only [go_sem, hA, undef, he, Tryz.results79]
  | true =>
    rw [g5] at he
    simp only [Bool.true_and] at he
    simp only [go_sem, hA]
    refine goCall 300 ce rfl (by simp only [go_sem, avE_eq]) (by simp only [go_sem, hA]) ?_
    cases g6 : sameE x.body y.body <;> rw [g6] at he <;> simp only [go_sem, hA, he, Tryz.results79]
abbrev sdSt (l m : List Dc) (q : Nat) : St := ⟨[(0, .d (.sl (encDs l))), (1, .d (.sl (encDs m))), (5, .d (.raw (.int .i64 q)))], [], []⟩
set_option maxRecDepth 100000 in
set_option maxHeartbeats 8000000 in
theorem rSameDecls_c (l m : List Dc) (hl : l.length ≤ 1048576) (hb : ∀ d ∈ l, nodesE d.body ≤ 1048576 ∧ d.names.length ≤ 1048576) : Con Tryz.prog 49 [.d (.sl (encDs l)), .d (.sl (encDs m))] (.d (.raw (.bool (sameDs l m)))) := by
  refine con_of Tryz.func49 rfl (by decide +kernel) rfl rfl (by simp [Tryz.ntmps49]) fun A hA => ?_
  rw [Tryz.ntmps49] at hA
  refine goC 300 ?_
  by_cases hlm : l.length = m.length
  · have g0 : (decide ¬ (l.length : Int) = (m.length : Int)) = false := decide_eq_false (by omega)
    simp only [go_sem, hA, encDs_length, g0]
    refine satC_loop [0, 1, 5] [] [] (fun x σ => ∃ q : Nat, q ≤ l.length ∧ x = l.length - q ∧ l.take q = m.take q ∧ σ = sdSt l m q) l.length ⟨0, by omega, by omega, rfl, by simp only [go_sem, sdSt]⟩ ?_
    rintro x σ ⟨q, hq, rfl, hf, rfl⟩
    refine goC 400 ?_
    by_cases hlt : q < l.length
    · have g1 : decide ((q : Int) < (l.length : Int)) = true := decide_eq_true (by omega)
      have hq2 : q < m.length := by omega
      obtain ⟨hb1, hb2⟩ := hb l[q] (List.getElem_mem hlt)
      have cs := rSameDecl_c l[q] m[q] hb1 hb2
      obtain ⟨d, hd⟩ : ∃ d, l[q] = d := ⟨_, rfl⟩
      obtain ⟨e, he⟩ : ∃ e, m[q] = e := ⟨_, rfl⟩
      rw [hd, he] at cs
      simp only [go_sem, hA, sdSt, encDs_length, g1, Int.toNat_natCast, encDs_at l q hlt, encDs_at m q hq2, hd, he, encD, mixed]
      refine ⟨⟨by omega, by omega⟩, ⟨by omega, by omega⟩, ?_⟩
      refine goCallD 300 cs rfl (by simp only [go_sem, avD]) (by simp only [go_sem, hA]) ?_
      cases hs : sameDc d e with
      | true =>
        have hde := (sameDc_iff d e).1 hs
        simp only [go_sem, hA]
        exact ⟨by show chk _ _ _ = true; kernel_rfl, by unfold inI64; omega, l.length - (q + 1), by omega, q + 1, by omega, rfl, by rw [List.take_succ_eq_append_getElem hlt, List.take_succ_eq_append_getElem hq2, hf, hd, he, hde], rfl⟩
      | false =>
        have hne : sameDs l m = false := sameDs_false fun e' => by
          subst e'
          rw [hd] at he
          rw [(sameDc_iff d e).2 he] at hs
          cases hs
        simp only [go_sem, hA, hne, Tryz.results49]
        exact by show chk _ _ _ = true; kernel_rfl
    · have g1 : decide ((q : Int) < (l.length : Int)) = false := decide_eq_false (by omega)
      obtain rfl : q = l.length := by omega
      have he : l = m := by rw [List.take_length, List.take_of_length_le (by omega)] at hf; exact hf
      have hs : sameDs l m = true := (sameDs_iff _ _).2 he
      simp only [go_sem, hA, sdSt, encDs_length, g1, Tryz.results49, hs]
  · have g0 : (decide ¬ (l.length : Int) = (m.length : Int)) = true := decide_eq_true (by omega)
    have hne : sameDs l m = false := sameDs_false fun e => hlm (by rw [e])
    simp only [go_sem, hA, encDs_length, g0, Tryz.results49, hne]
set_option maxRecDepth 100000 in
set_option maxHeartbeats 8000000 in
theorem rSameSource_c (x y : Sr) (hu : x.uses.length ≤ 1048576) (hl : x.decls.length ≤ 1048576) (hb : ∀ d ∈ x.decls, nodesE d.body ≤ 1048576 ∧ d.names.length ≤ 1048576) : Con Tryz.prog 17 [avS x, avS y] (.d (.raw (.bool (sameSr x y)))) := by
  have cu := rSameStrings_c x.uses y.uses hu
  have cd := rSameDecls_c x.decls y.decls hl hb
  refine con_of Tryz.func17 rfl (by decide +kernel) rfl rfl (by simp [Tryz.ntmps17]) fun A hA => ?_
  rw [Tryz.ntmps17] at hA
  refine goC 400 ?_
  simp only [go_sem, hA, avS]
  refine goCall 300 cu rfl (by simp only [go_sem]) (by simp only [go_sem, hA]) ?_
  cases h : sameS x.uses y.uses with
  | false =>
    have hr : sameSr x y = false := by unfold sameSr; rw [h]; rfl
    simp only [go_sem, hA, undef, hr, Tryz.results17]
  | true =>
    have hr : sameSr x y = sameDs x.decls y.decls := by unfold sameSr; rw [h]; rfl
    simp only [go_sem, hA]
    refine goCall 300 cd rfl (by simp only [go_sem]) (by simp only [go_sem, hA]) ?_
    cases h2 : sameDs x.decls y.decls <;> rw [h2] at hr <;> simp only [go_sem, hA, hr, Tryz.results17]
theorem textX_bad {x : Sr} (h : (textX x).2 ≠ 0) : (textX x).1 = ⟨#[]⟩ := by
  unfold textX at h ⊢
  split
  · split
    · rfl
    · rename_i h1 h2; rw [if_pos h1, if_neg h2] at h; exact absurd rfl h
  · rfl
theorem textX_ok {x : Sr} (h : (textX x).2 = 0) : OkSr x ∧ (textX x).1 = ⟨(catL (srcParts x)).toArray⟩ ∧ (catL (srcParts x)).length ≤ 65536 := by
  unfold textX at h ⊢
  by_cases h1 : srcX sdeclX x = 0
  · rw [if_pos h1] at h ⊢
    by_cases h2 : 65536 < (catL (srcParts x)).length
    · rw [if_pos h2] at h; exact absurd h (by decide)
    · rw [if_neg h2]
      exact ⟨src_ok h1, rfl, by omega⟩
  · rw [if_neg h1] at h; exact absurd h h1
theorem greatS_names {x : Sr} (h : greatS x = false) : x.uses.length ≤ 10 ∧ x.decls.length ≤ 8 ∧ ∀ d ∈ x.decls, d.names.length ≤ 5 := by
  simp only [greatS, greatU, greatDs, Bool.or_eq_false_iff, decide_eq_false_iff_not] at h
  refine ⟨by omega, by omega, fun d hd => ?_⟩
  have h1 : greatDc d = false := by
    cases hg : greatDc d with
    | false => rfl
    | true => rw [List.any_eq_true.2 ⟨d, hd, hg⟩] at h; exact absurd h.2.2 (by simp)
  simp only [greatDc, Bool.or_eq_false_iff, decide_eq_false_iff_not] at h1
  omega
set_option maxRecDepth 100000 in
set_option maxHeartbeats 16000000 in
theorem lawDistinct_c (a b : Sr) (ha : ∀ d ∈ a.decls, nodesE d.body ≤ 1048576) (hb : ∀ d ∈ b.decls, nodesE d.body ≤ 1048576) : Con Tryz.prog 4 [avS a, avS b] (.d (.raw (.bool true))) := by
  have cga := rGreatSource_c a ha
  have cgb := rGreatSource_c b hb
  refine con_of Tryz.func4 rfl (by decide +kernel) rfl rfl (by simp [Tryz.ntmps4]) fun A hA => ?_
  rw [Tryz.ntmps4] at hA
  refine goC 400 ?_
  simp only [go_sem, hA, avS]
  refine goCall 300 cga rfl (by simp only [go_sem, avS]) (by simp only [go_sem, hA]) ?_
  cases h1 : greatS a with
  | true =>
    simp only [go_sem, hA, undef]
    refine goCall 300 awake_c rfl rfl (by simp only [go_sem, hA]) ?_
    simp only [go_sem, hA, Tryz.results4]
  | false =>
  simp only [go_sem, hA]
  refine goCall 300 cgb rfl (by simp only [go_sem, avS]) (by simp only [go_sem, hA]) ?_
  cases h2 : greatS b with
  | true =>
    simp only [go_sem, hA]
    refine goCall 300 awake_c rfl rfl (by simp only [go_sem, hA]) ?_
    simp only [go_sem, hA, Tryz.results4]
  | false =>
  have na := greatS_nodes h1
  have nb := greatS_nodes h2
  obtain ⟨n1, n2, n3⟩ := greatS_names h1
  have cta := stext_c a fun d hd => by have := na d hd; omega
  have ctb := stext_c b fun d hd => by have := nb d hd; omega
  have cs := rSameSource_c a b (by omega) (by omega) fun d hd => ⟨by have := na d hd; omega, by have := n3 d hd; omega⟩
  simp only [go_sem, hA]
  refine goCall 300 cta rfl (by simp only [go_sem, avS]) (by simp only [go_sem, hA]) ?_
  simp only [go_sem, hA]
  refine goCall 300 ctb rfl (by simp only [go_sem, avS]) (by simp only [go_sem, hA]) ?_
  by_cases h3 : (textX a).2 = 0
  case neg =>
    have k1 : decide ((textX a).2 = 0) = false := decide_eq_false h3
    have k1' : (decide ¬ (textX a).2 = 0) = true := decide_eq_true h3
    have e1 := textX_bad h3
    by_cases h4 : (textX b).2 = 0
    · have k2 : decide ((textX b).2 = 0) = true := decide_eq_true h4
      simp only [go_sem, hA, k1, k1', k2, e1, undef]
      refine goCall 300 awake_c rfl rfl (by simp only [go_sem, hA]) ?_
      simp only [go_sem, hA, Tryz.results4]
    · have k2 : decide ((textX b).2 = 0) = false := decide_eq_false h4
      have e2 := textX_bad h4
      simp only [go_sem, hA, k1, k1', k2, e1, e2, undef]
      refine goCall 300 awake_c rfl rfl (by simp only [go_sem, hA]) ?_
      simp only [go_sem, hA, Tryz.results4]
  have k1 : decide ((textX a).2 = 0) = true := decide_eq_true h3
  have k1' : (decide ¬ (textX a).2 = 0) = false := decide_eq_false (fun h => h h3)
  by_cases h4 : (textX b).2 = 0
  case neg =>
    have k2 : decide ((textX b).2 = 0) = false := decide_eq_false h4
    have k2' : (decide ¬ (textX b).2 = 0) = true := decide_eq_true h4
    have e2 := textX_bad h4
    simp only [go_sem, hA, k1, k1', k2, k2', e2, undef]
    refine goCall 300 awake_c rfl rfl (by simp only [go_sem, hA]) ?_
    simp only [go_sem, hA, Tryz.results4]
  have k2' : (decide ¬ (textX b).2 = 0) = false := decide_eq_false (fun h => h h4)
  obtain ⟨va, ta, _⟩ := textX_ok h3
  obtain ⟨vb, tb, _⟩ := textX_ok h4
  have k4 : decide ((textX a).1 = (textX b).1) = sameSr a b := by
    cases hs : sameSr a b with
    | true => rw [(sameSr_iff a b).1 hs]; exact decide_eq_true rfl
    | false =>
      refine decide_eq_false fun e => ?_
      rw [ta, tb] at e
      have e : catL (srcParts a) = catL (srcParts b) := by
        have := congrArg (fun x : ByteArray => x.data.toList) e
        simpa using this
      rw [(sameSr_iff a b).2 (src_inj va vb e)] at hs; cases hs
  simp only [go_sem, hA, k1', k2', k4]
  refine goCall 300 cs rfl (by simp only [go_sem, avS]) (by simp only [go_sem, hA]) ?_
  simp only [go_sem, hA]
  refine goCall 300 awake_c rfl rfl (by simp only [go_sem, hA]) ?_
  simp only [go_sem, hA, Tryz.results4]
end Go.Proofs.YtnphcjpccieljaaGreatDoor
