/- Texts of this proof, part 27: what the proof uses of them. -/
import Derived.Test.YtnnolijagpakiaaGreatDoorQaz
namespace Go.Proofs.YtnnolijagpakiaaGreatDoor
open Go Go.RowKit
theorem few_of_ok {e : Ex} (h : checkX e = 0) : nodesE e ≤ 400 := by
  rcases Nat.lt_or_ge 400 (nodesE e) with h1 | h1
  · rw [checkX_nodes h1] at h; exact absurd h (by decide)
  · exact h1
theorem encTs_append (a b : List LTok) : encTs a ++ encTs b = encTs (a ++ b) := by simp [encTs]
set_option maxRecDepth 100000 in
set_option maxHeartbeats 32000000 in
theorem lawBeginnings_c (t m : List LTok) (ht : t.length ≤ 1048576) (hm : m.length ≤ 1048576) : Con Tryz.prog 6 [.d (.sl (encTs t)), .d (.sl (encTs m))] (.d (.raw (.bool true))) := by
  have cg := greatT_c t ht
  have cg2 := greatT_c m hm
  have ca := awake22_c
  refine con_of Tryz.func6 rfl (by decide +kernel) rfl rfl (by simp [Tryz.ntmps6]) fun A hA => ?_
  rw [Tryz.ntmps6] at hA
  refine goC 400 ?_
  simp only [go_sem, hA]
  refine goCall 400 cg rfl (by simp only [go_sem]) (by simp only [go_sem, hA]) ?_
  cases hg : greatT t with
  | true =>
    simp only [go_sem, hA, undef]
    refine goCall 400 ca rfl (by simp only [go_sem]) (by simp only [go_sem, hA]) ?_
    simp only [go_sem, hA, Tryz.results6]
  | false =>
  simp only [go_sem, hA]
  refine goCall 400 cg2 rfl (by simp only [go_sem]) (by simp only [go_sem, hA]) ?_
  cases hg2 : greatT m with
  | true =>
    simp only [go_sem, hA]
    refine goCall 400 ca rfl (by simp only [go_sem]) (by simp only [go_sem, hA]) ?_
    simp only [go_sem, hA, Tryz.results6]
  | false =>
  have hlen : ∀ {t : List LTok}, greatT t = false → t.length ≤ 120 := fun {t} hg => by
    unfold greatT at hg
    simp only [Bool.or_eq_false_iff, decide_eq_false_iff_not] at hg
    omega
  have hl1 := hlen hg
  have hl2 := hlen hg2
  have ce := pexpr_c t (by omega)
  simp only [go_sem, hA]
  refine goCall 400 ce rfl (by simp only [go_sem]) (by simp only [go_sem, hA]) ?_
  by_cases h3 : (exprP t).2.2 = 0
  case neg =>
    have g3 : (decide ¬(exprP t).2.2 = 0) = true := decide_eq_true h3
    simp only [go_sem, hA, avE_eq, g3]
    refine goCall 400 ca rfl (by simp only [go_sem]) (by simp only [go_sem, hA]) ?_
    simp only [go_sem, hA, Tryz.results6]
  obtain ⟨n, e, hn1, hn2, he0, e1, e2, e3, e4⟩ := expr_beg h3
  have hfew := few_of_ok he0
  have c2 := pexpr_c (t.take n) (by rw [List.length_take]; omega)
  have c3 := pexpr_c (t.take (n - 1)) (by rw [List.length_take]; omega)
  have c4 := pexpr_c (t.take n ++ m) (by rw [List.length_append, List.length_take]; omega)
  have cs := rSame_c e e (by omega)
  rw [e2] at c2
  rw [e3] at c3
  have k1 : decide ((n : Int) < 1) = false := decide_eq_false (by omega)
  have k2 : decide ((t.length : Int) < (n : Int)) = false := decide_eq_false (by omega)
  have q1 : (n : Int) - 1 = ((n - 1 : Nat) : Int) := by omega
  simp only [go_sem, hA, e1, avE_eq, encTs_length, k1, k2, q1, Int.toNat_natCast, encTs_take]
  refine ⟨by unfold inI64; omega, ⟨encTs_row t, by omega, by omega⟩, ?_⟩
  refine goCall 400 c3 rfl (by simp only [go_sem]) (by simp only [go_sem, hA]) ?_
  simp only [go_sem, hA, avE_ex0, encTs_length, Int.toNat_natCast, encTs_take]
  refine ⟨⟨encTs_row t, by omega, by omega⟩, ?_⟩
  refine goCall 400 c2 rfl (by simp only [go_sem]) (by simp only [go_sem, hA]) ?_
  have k3 : (decide ¬(n : Int) = (n : Int)) = false := decide_eq_false (by simp)
  simp only [go_sem, hA, avE_eq]
  refine goCall 400 cs rfl (by simp only [go_sem, avE_eq]) (by simp only [go_sem, hA]) ?_
  have k4 : (decide ¬((n - 1 : Nat) : Int) = ((n - 1 : Nat) : Int)) = false := decide_eq_false (by simp)
  simp only [go_sem, hA, sameE_refl, q1, encTs_length]
  refine ⟨by unfold inI64; omega, ?_⟩
  cases m with
  | nil =>
    have k5 : decide ((0 : Int) < (([] : List LTok).length : Int)) = false := rfl
    have e5 := e4 [] (by simp)
    rw [e5] at c4
    simp only [go_sem, hA, undef, Int.toNat_natCast, encTs_take, encTs_append, encTs_length, Nat.zero_add, List.length_nil, List.append_nil]
    refine ⟨⟨encTs_row t, by omega, by omega⟩, ⟨encTs_fit _, fun r hr => (by cases hr), by rw [List.length_take]; omega⟩, ⟨encTs_fit _, encTs_row _, by simp only [List.length_take]; omega⟩, goFrz 14000 ?_⟩
    refine goCall 400 c4 rfl (by simp only [go_sem]) (by simp only [go_sem, hA]) ?_
    simp only [go_sem, hA, avE_eq]
    refine goCall 400 cs rfl (by simp only [go_sem, avE_eq]) (by simp only [go_sem, hA]) ?_
    simp only [go_sem, hA, sameE_refl]
    refine goCall 400 ca rfl (by simp only [go_sem]) (by simp only [go_sem, hA]) ?_
    simp only [go_sem, hA, Tryz.results6]
  | cons y q =>
    have k5 : decide ((0 : Int) < ((q.length + 1 : Nat) : Int)) = true := decide_eq_true (by omega)
    have hat : (encTs (y :: q)).getD 0 [] = encT y := rfl
    by_cases hy : (⟨y.text.toArray⟩ : ByteArray) = ⟨#[46]⟩
    · have k6 : decide ((⟨y.text.toArray⟩ : ByteArray) = ⟨#[46]⟩) = true := decide_eq_true hy
      simp only [go_sem, hA, k5, hat, encT, k6, encTs_length]
      refine ⟨by omega, ?_⟩
      refine goCall 400 ca rfl (by simp only [go_sem]) (by simp only [go_sem, hA]) ?_
      simp only [go_sem, hA, Tryz.results6]
    · have k6 : decide ((⟨y.text.toArray⟩ : ByteArray) = ⟨#[46]⟩) = false := decide_eq_false hy
      have e5 := e4 (y :: q) (by
        simp only [List.map_cons, List.head?_cons]
        intro h
        injection h with h
        injection h with _ h
        exact hy (by show (⟨y.text.toArray⟩ : ByteArray) = _; rw [show y.text = [46] from h]))
      rw [e5] at c4
      simp only [go_sem, hA, k5, hat, encT, k6, Int.toNat_natCast, encTs_take, encTs_append, encTs_length, Nat.zero_add]
      refine ⟨by omega, ⟨encTs_row t, by omega, by omega⟩, ⟨encTs_fit _, fun r hr => (by cases hr), by rw [List.length_take]; omega⟩, ⟨encTs_fit _, encTs_row _, by simp only [List.length_take, List.length_cons] at hl2 ⊢; omega⟩, goFrz 14000 ?_⟩
      refine goCall 400 c4 rfl (by simp only [go_sem]) (by simp only [go_sem, hA]) ?_
      simp only [go_sem, hA, avE_eq]
      refine goCall 400 cs rfl (by simp only [go_sem, avE_eq]) (by simp only [go_sem, hA]) ?_
      simp only [go_sem, hA, sameE_refl]
      refine goCall 400 ca rfl (by simp only [go_sem]) (by simp only [go_sem, hA]) ?_
      simp only [go_sem, hA, Tryz.results6]
end Go.Proofs.YtnnolijagpakiaaGreatDoor
namespace Go.Proofs.YtnnolijagpakiaaGreatDoor
open Go Go.RowKit
theorem greatE_few {t : Ex} (h : greatE t = false) : nodesE t ≤ 40 := by
  simp only [greatE, Bool.or_eq_false_iff, decide_eq_false_iff_not] at h
  omega
theorem exprX_good {t : Ex} (h : (exprX t).2 = 0) : VT t ∧ (exprX t).1 = txE t ∧ (txE t).size ≤ 65536 ∧ checkX t = 0 := by
  unfold exprX at h ⊢
  by_cases h1 : checkX t = 0
  · rw [if_pos h1] at h ⊢
    by_cases h2 : kindsE 5 t = true
    · rw [if_pos h2] at h; exact absurd h (by decide)
    · rw [if_neg h2] at h ⊢
      by_cases h3 : 65536 < (txE t).size
      · rw [if_pos h3] at h; exact absurd h (by decide)
      · rw [if_neg h3]
        exact ⟨vt_X h1 (by simpa using h2), rfl, by omega, h1⟩
  · rw [if_neg h1] at h; exact absurd h h1
theorem exprs_read {e : Ex} (h : (exprX e).2 = 0) : ∃ us : List LTok, scanX (exprX e).1 = (us, 0, 0) ∧ ∀ m : List LTok, (m.map kt).head? ≠ some (sg [46]) → exprP (us ++ m) = (e, (us.length : Int), 0) := by
  obtain ⟨hv, ht, hs, h0⟩ := exprX_good h
  obtain ⟨us, h1, h2⟩ := sc_scan (sc_ex hv [] stop_nil)
  rw [ht]
  refine ⟨us, by unfold scanX; rw [if_neg (by omega), show scanAll (txE e).data.toList = (us, none) from h1], fun m hm => ?_⟩
  have e1 : (us ++ m).map kt = tkE e ++ m.map kt := by rw [List.map_append, h2]
  have e2 : pE ((us ++ m).length + 1) ((us ++ m).map kt) = (some e, m.map kt) := by
    rw [pE_fuel ((us ++ m).length + 1) ((us ++ m).length + 1 + depthE e) _ (by rw [List.length_map]; omega) (by rw [List.length_map]; omega), e1]
    exact pE_tk hv _ _ (by omega) hm
  rw [expr_some e2 h0, List.length_append, List.length_map]
  simp
set_option maxRecDepth 100000 in
set_option maxHeartbeats 32000000 in
theorem lawExprs_c (a : Ex) (m : List LTok) (ha : nodesE a ≤ 1048576) (hm : m.length ≤ 1048576) : Con Tryz.prog 8 [avE a, .d (.sl (encTs m))] (.d (.raw (.bool true))) := by
  have cga := rGreat_c a (by omega)
  have cgm := greatT_c m hm
  have ca := awake22_c
  refine con_of Tryz.func8 rfl (by decide +kernel) rfl (by simp only [AV.closed, closedL, avE, closedL_d, Bool.and_self]) (by simp [Tryz.ntmps8]) fun A hA => ?_
  rw [Tryz.ntmps8] at hA
  refine goC 400 ?_
  simp only [go_sem, hA, avE_eq]
  refine goCall 400 cga rfl (by simp only [go_sem, avE_eq]) (by simp only [go_sem, hA]) ?_
  cases h1 : greatE a with
  | true =>
    simp only [go_sem, hA, undef]
    refine goCall 400 ca rfl rfl (by simp only [go_sem, hA]) ?_
    simp only [go_sem, hA, Tryz.results8]
  | false =>
  simp only [go_sem, hA]
  refine goCall 400 cgm rfl (by simp only [go_sem]) (by simp only [go_sem, hA]) ?_
  cases h2 : greatT m with
  | true =>
    simp only [go_sem, hA, undef]
    refine goCall 400 ca rfl rfl (by simp only [go_sem, hA]) ?_
    simp only [go_sem, hA, Tryz.results8]
  | false =>
  by_cases h3 : 20 < m.length
  · have k3 : decide ((20 : Int) < (m.length : Int)) = true := decide_eq_true (by omega)
    simp only [go_sem, hA, encTs_length, k3, undef]
    refine goCall 400 ca rfl rfl (by simp only [go_sem, hA]) ?_
    simp only [go_sem, hA, Tryz.results8]
  have k3 : decide ((20 : Int) < (m.length : Int)) = false := decide_eq_false (by omega)
  have na := greatE_few h1
  have cea := sExpr_c a (by omega) (fun h h5 => checkX_full h h5)
  have fin : ∀ (hd : (m.map kt).head? ≠ some (sg [46])), (exprX a).2 = 0 → ∃ us : List LTok, scanX (exprX a).1 = (us, 0, 0) ∧ us.length ≤ 65536 ∧ exprP (us ++ m) = (a, (us.length : Int), 0) := fun hd h => by
    obtain ⟨us, e1, e2⟩ := exprs_read h
    have := (scan_bound (exprX a).1).1
    rw [e1] at this
    exact ⟨us, e1, this, e2 m hd⟩
  have cs := rSame_c a a (by omega)
  cases m with
  | nil =>
    have k4 : decide ((0 : Int) < (([] : List LTok).length : Int)) = false := rfl
    have k3' : decide ((20 : Int) < (([] : List LTok).length : Int)) = false := rfl
    simp only [go_sem, hA, encTs_length, undef]
    refine goCall 400 cea rfl (by simp only [go_sem, avE_eq]) (by simp only [go_sem, hA]) ?_
    by_cases h4 : (exprX a).2 = 0
    case neg =>
      have k5 : (decide ¬(exprX a).2 = 0) = true := decide_eq_true h4
      simp only [go_sem, hA, k5]
      refine goCall 400 ca rfl rfl (by simp only [go_sem, hA]) ?_
      simp only [go_sem, hA, Tryz.results8]
    have k5 : (decide ¬(exprX a).2 = 0) = false := decide_eq_false (by simpa using h4)
    obtain ⟨us, e1, e2, e3⟩ := fin (by simp) h4
    rw [List.append_nil] at e3
    have csc := scan_c (exprX a).1
    have ce := pexpr_c us (by omega)
    rw [e1] at csc
    rw [e3] at ce
    simp only [go_sem, hA, k5]
    refine goCall 400 csc rfl (by simp only [go_sem]) (by simp only [go_sem, hA]) ?_
    simp only [go_sem, hA, encTs_append, encTs_length, Nat.zero_add, List.length_nil, List.append_nil]
    refine ⟨⟨encTs_fit us, fun r hr => (by cases hr), by omega⟩, ⟨encTs_fit _, encTs_row _, by omega⟩, goFrz 7000 ?_⟩
    refine goCall 400 ce rfl (by simp only [go_sem]) (by simp only [go_sem, hA]) ?_
    have k6 : decide ((us.length : Int) = (us.length : Int)) = true := decide_eq_true rfl
    simp only [go_sem, hA, avE_eq, encTs_length]
    refine goCall 400 cs rfl (by simp only [go_sem, avE_eq]) (by simp only [go_sem, hA]) ?_
    simp only [go_sem, hA, sameE_refl]
    refine goCall 400 ca rfl rfl (by simp only [go_sem, hA]) ?_
    simp only [go_sem, hA, Tryz.results8]
  | cons y q =>
    have k4 : decide ((0 : Int) < ((q.length + 1 : Nat) : Int)) = true := decide_eq_true (by omega)
    have k3' : decide ((20 : Int) < ((q.length + 1 : Nat) : Int)) = false := decide_eq_false (by simp only [List.length_cons] at h3; omega)
    have hat : (encTs (y :: q)).getD 0 [] = encT y := rfl
    by_cases hk : y.kind = 4
    case neg =>
      have g1 : decide (y.kind = 4) = false := decide_eq_false hk
      simp only [go_sem, hA, encTs_length, List.length_cons, k3', k4, hat, encT, g1, undef]
      refine ⟨by omega, ?_⟩
      refine goCall 400 cea rfl (by simp only [go_sem, avE_eq]) (by simp only [go_sem, hA]) ?_
      by_cases h4 : (exprX a).2 = 0
      case neg =>
        have k5 : (decide ¬(exprX a).2 = 0) = true := decide_eq_true h4
        simp only [go_sem, hA, k5]
        refine goCall 400 ca rfl rfl (by simp only [go_sem, hA]) ?_
        simp only [go_sem, hA, Tryz.results8]
      have k5 : (decide ¬(exprX a).2 = 0) = false := decide_eq_false (by simpa using h4)
      obtain ⟨us, e1, e2, e3⟩ := fin (by simp only [List.map_cons, List.head?_cons]; intro h; injection h with h; exact hk (congrArg Prod.fst h)) h4
      have csc := scan_c (exprX a).1
      have ce := pexpr_c (us ++ y :: q) (by rw [List.length_append]; omega)
      rw [e1] at csc
      rw [e3] at ce
      simp only [go_sem, hA, k5]
      refine goCall 400 csc rfl (by simp only [go_sem]) (by simp only [go_sem, hA]) ?_
      simp only [go_sem, hA, encTs_append, encTs_length, Nat.zero_add, List.length_nil]
      refine ⟨⟨encTs_fit us, fun r hr => (by cases hr), by omega⟩, ⟨encTs_fit _, encTs_row _, by simp only [List.length_cons] at h3 ⊢; omega⟩, goFrz 7000 ?_⟩
      refine goCall 400 ce rfl (by simp only [go_sem]) (by simp only [go_sem, hA]) ?_
      have k6 : decide ((us.length : Int) = (us.length : Int)) = true := decide_eq_true rfl
      simp only [go_sem, hA, avE_eq, encTs_length]
      refine goCall 400 cs rfl (by simp only [go_sem, avE_eq]) (by simp only [go_sem, hA]) ?_
      simp only [go_sem, hA, sameE_refl]
      refine goCall 400 ca rfl rfl (by simp only [go_sem, hA]) ?_
      simp only [go_sem, hA, Tryz.results8]
    have g1 : decide (y.kind = 4) = true := decide_eq_true hk
    by_cases hy : (⟨y.text.toArray⟩ : ByteArray) = ⟨#[46]⟩
    · have g2 : decide ((⟨y.text.toArray⟩ : ByteArray) = ⟨#[46]⟩) = true := decide_eq_true hy
      simp only [go_sem, hA, encTs_length, List.length_cons, k3', k4, hat, encT, g1, g2]
      refine ⟨by omega, by omega, ?_⟩
      refine goCall 400 ca rfl rfl (by simp only [go_sem, hA]) ?_
      simp only [go_sem, hA, Tryz.results8]
    · have g2 : decide ((⟨y.text.toArray⟩ : ByteArray) = ⟨#[46]⟩) = false := decide_eq_false hy
      simp only [go_sem, hA, encTs_length, List.length_cons, k3', k4, hat, encT, g1, g2]
      refine ⟨by omega, by omega, ?_⟩
      refine goCall 400 cea rfl (by simp only [go_sem, avE_eq]) (by simp only [go_sem, hA]) ?_
      by_cases h4 : (exprX a).2 = 0
      case neg =>
        have k5 : (decide ¬(exprX a).2 = 0) = true := decide_eq_true h4
        simp only [go_sem, hA, k5]
        refine goCall 400 ca rfl rfl (by simp only [go_sem, hA]) ?_
        simp only [go_sem, hA, Tryz.results8]
      have k5 : (decide ¬(exprX a).2 = 0) = false := decide_eq_false (by simpa using h4)
      obtain ⟨us, e1, e2, e3⟩ := fin (by simp only [List.map_cons, List.head?_cons]; intro h; injection h with h; injection h with _ h; exact hy (by show (⟨y.text.toArray⟩ : ByteArray) = _; rw [show y.text = [46] from h])) h4
      have csc := scan_c (exprX a).1
      have ce := pexpr_c (us ++ y :: q) (by rw [List.length_append]; omega)
      rw [e1] at csc
      rw [e3] at ce
      simp only [go_sem, hA, k5]
      refine goCall 400 csc rfl (by simp only [go_sem]) (by simp only [go_sem, hA]) ?_
      simp only [go_sem, hA, encTs_append, encTs_length, Nat.zero_add, List.length_nil]
      refine ⟨⟨encTs_fit us, fun r hr => (by cases hr), by omega⟩, ⟨encTs_fit _, encTs_row _, by simp only [List.length_cons] at h3 ⊢; omega⟩, goFrz 7000 ?_⟩
      refine goCall 400 ce rfl (by simp only [go_sem]) (by simp only [go_sem, hA]) ?_
      have k6 : decide ((us.length : Int) = (us.length : Int)) = true := decide_eq_true rfl
      simp only [go_sem, hA, avE_eq, encTs_length]
      refine goCall 400 cs rfl (by simp only [go_sem, avE_eq]) (by simp only [go_sem, hA]) ?_
      simp only [go_sem, hA, sameE_refl]
      refine goCall 400 ca rfl rfl (by simp only [go_sem, hA]) ?_
      simp only [go_sem, hA, Tryz.results8]
end Go.Proofs.YtnnolijagpakiaaGreatDoor
