/- CheckUses and CheckSource of the reference of layer 21, walked. names, line and Text of the reference of layer 21, walked. GreatUses, GreatDecls, GreatSource of the reference of layer 21, walked. -/
import Derived.Test.YtnphcjpccieljaaGreatDoorGYf
import Derived.Test.YtnphcjpccieljaaGreatDoorGPl
import Derived.Test.YtnphcjpccieljaaGreatDoorGXv
namespace Go.Proofs.YtnphcjpccieljaaGreatDoor
open Go Go.RowKit
def usesX (l : List ByteArray) : Int := if 20 < l.length then 4 else firstN (useE l) l.length
abbrev ruSt (l : List ByteArray) (q : Nat) : St := ⟨[(0, .d (.sl (encS l))), (3, .d (.raw (.int .i64 q)))], [], []⟩
set_option maxRecDepth 100000 in
set_option maxHeartbeats 8000000 in
theorem rUses_c (l : List ByteArray) : Con Tryz.prog 46 [.d (.sl (encS l))] (.d (.raw (.int .i64 (usesX l)))) := by
  refine con_of Tryz.func46 rfl (by decide +kernel) rfl rfl (by simp [Tryz.ntmps46]) fun A hA => ?_
  rw [Tryz.ntmps46] at hA
  refine goC 400 ?_
  by_cases h1 : 20 < l.length
  · have g1 : decide ((20 : Int) < (l.length : Int)) = true := decide_eq_true (by omega)
    have he : usesX l = 4 := if_pos h1
    simp only [go_sem, hA, encS_length, g1, he, Tryz.results46]
  have g1 : decide ((20 : Int) < (l.length : Int)) = false := decide_eq_false (by omega)
  have hs0 : usesX l = firstN (useE l) l.length := if_neg h1
  simp only [go_sem, hA, encS_length, g1]
  refine satC_loop [0, 3] [] [] (fun y σ => ∃ q : Nat, q ≤ l.length ∧ y = l.length - q ∧ firstN (useE l) q = 0 ∧ σ = ruSt l q) l.length ⟨0, by omega, by omega, rfl, by simp only [go_sem, ruSt]⟩ ?_
  rintro y σ ⟨q, hq, rfl, hf, rfl⟩
  refine goC 400 ?_
  by_cases hlt : q < l.length
  · have k1 : decide ((q : Int) < (l.length : Int)) = true := decide_eq_true (by omega)
    have hc := rLabel_c l[q]
    have hat := atB_get l q hlt
    have hhit : ∀ e : Int, ¬ e = 0 → useE l q = e → usesX l = e := fun e h0 h => by
      have h2 := firstN_hit (n := l.length) hf hlt (by rw [h]; exact h0)
      rw [hs0, h2, h]
    simp only [go_sem, hA, ruSt, encS_length, k1, Int.toNat_natCast, encS_at l q hlt]
    refine ⟨⟨by omega, by omega⟩, ?_⟩
    refine goCall 300 hc rfl (by simp only [go_sem]) (by simp only [go_sem, hA]) ?_
    cases hl : labelL l[q].data.toList with
    | false =>
      have hr := hhit 6 (by decide) (by unfold useE; rw [hat, hl]; rfl)
      simp only [go_sem, hA, hr, Tryz.results46]
    | true =>
      have hu : useE l q = if 0 < q ∧ ltS (atB l (q - 1)) (atB l q) = false then 10 else 0 := by unfold useE; rw [hat, hl]; rfl
      by_cases hq0 : 0 < q
      · have k2 : decide ((0 : Int) < (q : Int)) = true := decide_eq_true (by omega)
        have hq1 : ((q : Int) - 1).toNat = q - 1 := by omega
        have hat1 := atB_get l (q - 1) (by omega)
        have hin : inI64 ((q : Int) - 1) := by unfold inI64; omega
        have hw : IntKind.i64.wrap ((q : Int) - 1) = (q : Int) - 1 := wrapI64 hin
        cases hls : ltS l[q - 1] l[q] with
        | false =>
          have hls' : Op.bytesLess l[q - 1].data.toList l[q].data.toList = false := hls
          have hr := hhit 10 (by decide) (by rw [hu, hat, hat1, if_pos ⟨hq0, hls⟩])
          simp only [go_sem, hA, k2, encS_length, hq1, Int.toNat_natCast, encS_at l q hlt, encS_at l (q - 1) (by omega), hls', hr, mixed, Tryz.results46]
          exact ⟨hin, ⟨by omega, by omega⟩, ⟨by omega, by omega⟩, by show chk _ _ _ = true; kernel_rfl⟩
        | true =>
          have hls' : Op.bytesLess l[q - 1].data.toList l[q].data.toList = true := hls
          have hz := firstN_step hf (by rw [hu, hat, hat1, hls, if_neg (by simp)])
          simp only [go_sem, hA, k2, encS_length, hq1, Int.toNat_natCast, encS_at l q hlt, encS_at l (q - 1) (by omega), hls', mixed]
          exact ⟨hin, ⟨by omega, by omega⟩, ⟨by omega, by omega⟩, ⟨by show chk _ _ _ = true; kernel_rfl, by unfold inI64; omega, l.length - (q + 1), by omega, q + 1, by omega, rfl, hz, rfl⟩⟩
      · have k2 : decide ((0 : Int) < (q : Int)) = false := decide_eq_false (by omega)
        have hz := firstN_step hf (by rw [hu, if_neg (fun h => hq0 h.1)])
        simp only [go_sem, hA, k2, undef, mixed]
        exact ⟨by show chk _ _ _ = true; kernel_rfl, by unfold inI64; omega, l.length - (q + 1), by omega, q + 1, by omega, rfl, hz, rfl⟩
  have k1 : decide ((q : Int) < (l.length : Int)) = false := decide_eq_false (by omega)
  obtain rfl : q = l.length := by omega
  rw [hf] at hs0
  simp only [go_sem, hA, ruSt, encS_length, k1, hs0, Tryz.results46]
theorem srcX_uses (e : Dc → Int) (x : Sr) : srcX e x = if ¬ usesX x.uses = 0 then usesX x.uses else if 100 < x.decls.length then 4 else firstN (declE e x.decls) x.decls.length := by
  unfold srcX usesX
  by_cases h : 20 < x.uses.length
  · rw [if_pos h, if_pos h, if_pos (by decide)]
  · rw [if_neg h, if_neg h]
/-- why a declaration is not valid, as the reference sees it -/
def rdX (x : Dc) : Int := if ¬ checkDX x = 0 then checkDX x else if kindsE 5 x.body then 9 else 0
theorem rdX_eq (x : Dc) : rdX x = sdeclX x := by
  have n1 : ¬ (1 : Int) = 0 := by decide
  have n2 : ¬ (2 : Int) = 0 := by decide
  have n6 : ¬ (6 : Int) = 0 := by decide
  have n9 : ¬ (9 : Int) = 0 := by decide
  have n0 : ¬ ¬ (0 : Int) = 0 := by decide
  unfold rdX sdeclX checkDX namesX
  by_cases h1 : x.id < 0 ∨ 999999 < x.id
  · rw [if_pos h1, if_pos h1, if_pos n2]
  rw [if_neg h1, if_neg h1]
  by_cases h2 : x.kind < 1 ∨ 3 < x.kind
  · rw [if_pos h2, if_pos h2, if_pos n9]
  rw [if_neg h2, if_neg h2]
  by_cases h3 : ¬ x.names.length = 1 ∧ ¬ x.names.length = 3
  · rw [if_pos h3, if_pos h3, if_pos n1, if_pos n1]
  rw [if_neg h3, if_neg h3]
  by_cases h4 : x.names.any (badName x.names) = true
  · rw [if_pos h4, if_pos h4, if_pos n6, if_pos n6]
  rw [if_neg h4, if_neg h4, if_neg n0]
theorem declE_congr {e f : Dc → Int} (h : ∀ d, e d = f d) (l : List Dc) (q : Nat) : declE e l q = declE f l q := by unfold declE; rw [h]
theorem srcX_eq (x : Sr) : srcX rdX x = srcX sdeclX x := by
  unfold srcX
  rw [firstN_congr _ fun i _ => declE_congr rdX_eq x.decls i]
theorem ones_has {l : List Dc} {k q : Nat} (hk : k < q) (hl : k < l.length) (h1 : (atD l k).names.length = 1) : hasS (ones (l.take q)) (atB (atD l k).names 0) = true := by
  have hm : atD l k ∈ l.take q := by
    rw [atD_get l k hl]
    have : (l.take q)[k]'(by rw [List.length_take]; omega) = l[k] := by simp
    rw [← this]
    exact List.getElem_mem _
  unfold hasS ones
  rw [List.any_eq_true]
  refine ⟨atB (atD l k).names 0, List.mem_filterMap.2 ⟨_, hm, by unfold oneOf; rw [if_pos h1]⟩, by simp⟩
theorem hasS_snoc (l : List ByteArray) (s t : ByteArray) : hasS (l ++ [s]) t = (hasS l t || decide (s = t)) := by simp [hasS]
abbrev rs1St (x : Sr) (q : Nat) : St := ⟨[(1, .box 0 0), (4, .d (.raw (.int .i64 q)))], [(0, some (.cell 25 [.d (.sl (encS x.uses)), .d (.sl (encDs x.decls))]))], []⟩
abbrev rs2St (x : Sr) (d : Dc) (q k : Nat) : St := ⟨[(1, .box 0 0), (4, .d (.raw (.int .i64 q))), (5, .box 9005 0), (6, .d (.raw (.int .i64 k)))], [(0, some (.cell 25 [.d (.sl (encS x.uses)), .d (.sl (encDs x.decls))])),
  (9005, some (.cell 54 [.d (.raw (.int .i64 d.id)), .d (.raw (.int .i64 d.kind)), .d (.raw (.bool d.pub)), .d (.sl (encS d.names)), .d (.raw (.bool d.doubt)), .d (.raw (.int .i64 d.body.kind)), .d (.raw (.string d.body.name)), .d (.raw (.string d.body.more)), .d (.raw (.int .i64 d.body.int)), .d (.raw (.int .i64 d.body.den)), .d (.sl (encL d.body.sub))]))], []⟩
set_option maxRecDepth 100000 in
set_option maxHeartbeats 16000000 in
theorem rsource_c (x : Sr) (hb : ∀ d ∈ x.decls, nodesE d.body ≤ 524288) : Con Tryz.prog 16 [avS x] (.d (.raw (.int .i64 (srcX rdX x)))) := by
  have cu := rUses_c x.uses
  have hs0 := srcX_uses rdX x
  refine con_of Tryz.func16 rfl (by decide +kernel) rfl rfl (by simp [Tryz.ntmps16]) fun A hA => ?_
  rw [Tryz.ntmps16] at hA
  refine goC 400 ?_
  simp only [go_sem, hA, avS]
  refine goCall 300 cu rfl (by simp only [go_sem]) (by simp only [go_sem, hA]) ?_
  by_cases h1 : usesX x.uses = 0
  case neg =>
    have g1 : (decide ¬ usesX x.uses = 0) = true := decide_eq_true h1
    rw [if_pos h1] at hs0
    simp only [go_sem, hA, g1, hs0, Tryz.results16]
  have g1 : (decide ¬ usesX x.uses = 0) = false := decide_eq_false (fun h => h h1)
  rw [if_neg (fun h => h h1)] at hs0
  by_cases h2 : 100 < x.decls.length
  · have g2 : decide ((100 : Int) < (x.decls.length : Int)) = true := decide_eq_true (by omega)
    rw [if_pos h2] at hs0
    simp only [go_sem, hA, encDs_length, g1, g2, hs0, Tryz.results16]
  have g2 : decide ((100 : Int) < (x.decls.length : Int)) = false := decide_eq_false (by omega)
  rw [if_neg h2] at hs0
  simp only [go_sem, hA, encDs_length, g1, g2]
  refine satC_loop [1, 4] [0] [] (fun y σ => ∃ q : Nat, q ≤ x.decls.length ∧ y = x.decls.length - q ∧ firstN (declE rdX x.decls) q = 0 ∧ σ = rs1St x q) x.decls.length ⟨0, by omega, by omega, rfl, by simp only [go_sem, rs1St]⟩ ?_
  rintro y σ ⟨q, hq, rfl, hf2, rfl⟩
  refine goC 400 ?_
  by_cases hlt : q < x.decls.length
  case neg =>
    have k1 : decide ((q : Int) < (x.decls.length : Int)) = false := decide_eq_false (by omega)
    obtain rfl : q = x.decls.length := by omega
    rw [hf2] at hs0
    simp only [go_sem, hA, rs1St, encDs_length, k1, hs0, Tryz.results16]
  have k1 : decide ((q : Int) < (x.decls.length : Int)) = true := decide_eq_true (by omega)
  have hat := atD_get x.decls q hlt
  have hlen : x.decls.length ≤ 100 := by omega
  obtain ⟨d, hd⟩ : ∃ d, x.decls[q] = d := ⟨_, rfl⟩
  rw [hd] at hat
  have hbd := hb d (by rw [← hd]; exact List.getElem_mem hlt)
  have hc := rCheckDecl_c d hbd
  have ck := rKinds_c 5 (nodesE d.body + 1) d.body (by omega) (by omega)
  have hhit : ∀ e : Int, ¬ e = 0 → declE rdX x.decls q = e → srcX rdX x = e := fun e h0 h => by
    have h2 := firstN_hit (n := x.decls.length) hf2 hlt (by rw [h]; exact h0)
    rw [hs0, h2, h]
  simp only [go_sem, hA, rs1St, encDs_length, k1, Int.toNat_natCast, encDs_at x.decls q hlt, hd, encD]
  refine ⟨⟨by omega, by omega⟩, ?_⟩
  refine goCall 300 hc rfl (by simp only [go_sem, avD]) (by simp only [go_sem, hA]) ?_
  by_cases he : checkDX d = 0
  case neg =>
    have k2 : (decide ¬ checkDX d = 0) = true := decide_eq_true he
    have hrd : rdX d = checkDX d := if_pos he
    have hr := hhit (checkDX d) he (by unfold declE; rw [hat, hrd, if_pos he])
    simp only [go_sem, hA, k2, hr, Tryz.results16]
  have k2 : (decide ¬ checkDX d = 0) = false := decide_eq_false (fun h => h he)
  simp only [go_sem, hA, k2]
  refine goCall 300 ck rfl (by simp only [go_sem, avE_eq]) (by simp only [go_sem, hA]) ?_
  cases h5 : kindsE 5 d.body with
  | true =>
    have hrd : rdX d = 9 := by unfold rdX; rw [if_neg (fun h => h he), h5]; rfl
    have hr := hhit 9 (by decide) (by unfold declE; rw [hat, hrd, if_pos (by decide)])
    simp only [go_sem, hA, hr, Tryz.results16]
  | false =>
    have hrd : rdX d = 0 := by unfold rdX; rw [if_neg (fun h => h he), h5]; rfl
    have hde : declE rdX x.decls q = if misplaced x.decls q then 10 else if d.names.length = 1 ∧ hasS (ones (x.decls.take q)) (atB d.names 0) then 7 else 0 := by unfold declE; rw [hat, hrd, if_neg (by decide)]
    have hq1 : ((q : Int) - 1).toNat = q - 1 := by omega
    have hin : inI64 ((q : Int) - 1) := by unfold inI64; omega
    have hw : IntKind.i64.wrap ((q : Int) - 1) = (q : Int) - 1 := wrapI64 hin
    cases hm : misplaced x.decls q with
    | true =>
      have hm' := hm
      simp only [misplaced, hat, Bool.and_eq_true, Bool.or_eq_true, decide_eq_true_eq] at hm'
      obtain ⟨⟨hq0, hid⟩, hor⟩ := hm'
      have hr := hhit 10 (by decide) (by rw [hde, hm, if_pos rfl])
      have k3 : (decide ¬ d.id = 0) = true := decide_eq_true hid
      have k4 : decide ((0 : Int) < (q : Int)) = true := decide_eq_true (by omega)
      have hat1 := atD_get x.decls (q - 1) (by omega)
      rw [hat1] at hor
      by_cases hp : d.id ≤ x.decls[q - 1].id
      · have k5 : decide (d.id ≤ x.decls[q - 1].id) = true := decide_eq_true hp
        simp only [go_sem, hA, k3, k4, encDs_length, hq1, encDs_at x.decls (q - 1) (by omega), encD, k5, undef, mixed, hr, Tryz.results16]
        exact ⟨hin, ⟨by omega, by omega⟩, by show chk _ _ _ = true; kernel_rfl⟩
      · have k5 : decide (d.id ≤ x.decls[q - 1].id) = false := decide_eq_false hp
        have k6 : decide (x.decls[q - 1].id = 0) = true := decide_eq_true (by rcases hor with h | h; exact h; exact absurd h hp)
        simp only [go_sem, hA, k3, k4, encDs_length, hq1, encDs_at x.decls (q - 1) (by omega), encD, k5, k6, mixed, hr, Tryz.results16]
        exact ⟨hin, ⟨by omega, by omega⟩, hin, ⟨by omega, by omega⟩, by show chk _ _ _ = true; kernel_rfl⟩
    | false =>
      rw [hm, if_neg (by decide)] at hde
      have hm' : d.id = 0 ∨ (¬ d.id = 0 ∧ ¬ 0 < q) ∨ (¬ d.id = 0 ∧ 0 < q ∧ ¬ (atD x.decls (q - 1)).id = 0 ∧ ¬ d.id ≤ (atD x.decls (q - 1)).id) := by
        by_cases e1 : d.id = 0
        · exact .inl e1
        by_cases e2 : 0 < q
        · refine .inr (.inr ⟨e1, e2, ?_⟩)
          simp only [misplaced, hat, decide_eq_true e2, decide_eq_true e1, Bool.true_and, Bool.or_eq_false_iff, decide_eq_false_iff_not] at hm
          exact hm
        · exact .inr (.inl ⟨e1, e2⟩)
      rcases hm' with e1 | ⟨e1, e2⟩ | ⟨e1, e2, e3, e4⟩
      case' inl =>
        have k3 : (decide ¬ d.id = 0) = false := decide_eq_false (fun h => h e1)
        by_cases e2 : 0 < q
        case' pos =>
          have k4 : decide ((0 : Int) < (q : Int)) = true := decide_eq_true (by omega)
          simp only [go_sem, hA, k3, k4, undef, mixed]
        case' neg =>
          have k4 : decide ((0 : Int) < (q : Int)) = false := decide_eq_false (by omega)
          simp only [go_sem, hA, k4, undef, mixed]
      case' inr.inl =>
        have k4 : decide ((0 : Int) < (q : Int)) = false := decide_eq_false (by omega)
        simp only [go_sem, hA, k4, undef, mixed]
      case' inr.inr =>
        have k3 : (decide ¬ d.id = 0) = true := decide_eq_true e1
        have k4 : decide ((0 : Int) < (q : Int)) = true := decide_eq_true (by omega)
        have hat1 := atD_get x.decls (q - 1) (by omega)
        rw [hat1] at e3 e4
        have k5 : decide (x.decls[q - 1].id = 0) = false := decide_eq_false e3
        have k6 : decide (d.id ≤ x.decls[q - 1].id) = false := decide_eq_false e4
        simp only [go_sem, hA, k3, k4, encDs_length, hq1, encDs_at x.decls (q - 1) (by omega), encD, k5, k6, mixed]
        refine ⟨hin, ⟨by omega, by omega⟩, hin, ⟨by omega, by omega⟩, ?_⟩
      all_goals
        refine ⟨by show chk _ _ _ = true; kernel_rfl, ?_⟩
        refine satC_loop [1, 4, 5, 6] [0, 9005] [] (fun y σ => ∃ k : Nat, k ≤ q ∧ y = q - k ∧ (d.names.length = 1 → hasS (ones (x.decls.take k)) (atB d.names 0) = false) ∧ σ = rs2St x d q k) q ⟨0, by omega, by omega, fun _ => rfl, by simp only [go_sem, rs2St]⟩ ?_
        rintro y σ ⟨k, hk, rfl, hnone, rfl⟩
        refine goC 400 ?_
        have fin : (d.names.length = 1 → hasS (ones (x.decls.take q)) (atB d.names 0) = false) → firstN (declE rdX x.decls) (q + 1) = 0 := fun h => firstN_step hf2 (by
          rw [hde, if_neg]
          rintro ⟨h6, h7⟩
          rw [h h6] at h7; cases h7)
        by_cases hkq : k < q
        case neg =>
          obtain rfl : k = q := by omega
          have k7 : decide ((k : Int) < (k : Int)) = false := decide_eq_false (by omega)
          simp only [go_sem, hA, rs2St, k7, undef]
          exact ⟨by unfold inI64; omega, x.decls.length - (k + 1), by omega, k + 1, by omega, rfl, fin hnone, rfl⟩
        have k7 : decide ((k : Int) < (q : Int)) = true := decide_eq_true (by omega)
        by_cases hl : d.names.length = 1
        case neg =>
          have k8 : decide ((d.names.length : Int) = 1) = false := decide_eq_false (by omega)
          simp only [go_sem, hA, rs2St, k7, k8, encS_length]
          exact ⟨by unfold inI64; omega, x.decls.length - (q + 1), by omega, q + 1, by omega, rfl, fin (fun h => absurd h hl), rfl⟩
        have k8 : decide ((d.names.length : Int) = 1) = true := decide_eq_true (by omega)
        have hkl : k < x.decls.length := by omega
        have hone := ones_succ x.decls k hkl
        have hatk := atD_get x.decls k hkl
        obtain ⟨e, hek⟩ : ∃ e, x.decls[k] = e := ⟨_, rfl⟩
        rw [hek] at hatk
        rw [hatk] at hone
        by_cases hle : e.names.length = 1
        · have k9 : decide ((e.names.length : Int) = 1) = true := decide_eq_true (by omega)
          rw [if_pos hle] at hone
          by_cases heq : atB e.names 0 = atB d.names 0
          · have k10 : decide (atB e.names 0 = atB d.names 0) = true := decide_eq_true heq
            have hh := ones_has (l := x.decls) hkq hkl (by rw [hatk]; exact hle)
            rw [hatk, heq] at hh
            have hr := hhit 7 (by decide) (by rw [hde, if_pos ⟨hl, hh⟩])
            simp only [go_sem, hA, rs2St, k7, k8, k9, k10, encS_length, encDs_length, Int.toNat_natCast, encDs_at x.decls k hkl, hek, encD, encS_atB e.names 0 (by omega), encS_atB d.names 0 (by omega), mixed, hr, Tryz.results16]
            exact ⟨⟨by omega, by omega⟩, ⟨by omega, by omega⟩, by omega, by omega, by show chk _ _ _ = true; kernel_rfl⟩
          · have k10 : decide (atB e.names 0 = atB d.names 0) = false := decide_eq_false heq
            simp only [go_sem, hA, rs2St, k7, k8, k9, k10, encS_length, encDs_length, Int.toNat_natCast, encDs_at x.decls k hkl, hek, encD, encS_atB e.names 0 (by omega), encS_atB d.names 0 (by omega), mixed]
            exact ⟨⟨by omega, by omega⟩, ⟨by omega, by omega⟩, by omega, by omega, by show chk _ _ _ = true; kernel_rfl, by unfold inI64; omega, q - (k + 1), by omega, k + 1, by omega, rfl, fun _ => by rw [hone, hasS_snoc, hnone hl, decide_eq_false heq]; rfl, rfl⟩
        · have k9 : decide ((e.names.length : Int) = 1) = false := decide_eq_false (by omega)
          rw [if_neg hle, List.append_nil] at hone
          simp only [go_sem, hA, rs2St, k7, k8, k9, encS_length, encDs_length, Int.toNat_natCast, encDs_at x.decls k hkl, hek, encD, undef, mixed]
          exact ⟨⟨by omega, by omega⟩, by show chk _ _ _ = true; kernel_rfl, by unfold inI64; omega, q - (k + 1), by omega, k + 1, by omega, rfl, fun _ => by rw [hone]; exact hnone hl, rfl⟩
end Go.Proofs.YtnphcjpccieljaaGreatDoor

namespace Go.Proofs.YtnphcjpccieljaaGreatDoor
open Go Go.RowKit
abbrev rnSt (l : List ByteArray) (q : Nat) : St := ⟨[(0, .d (.sl (encS l))), (3, .d (.raw (.string (namesB (l.take q))))), (4, .d (.raw (.int .i64 q)))], [], []⟩
set_option maxRecDepth 100000 in
set_option maxHeartbeats 8000000 in
theorem rnames_c (l : List ByteArray) (hl : l.length ≤ 1048576) (hs : sumB l ≤ 1099511627776) : Con Tryz.prog 73 [.d (.sl (encS l))] (.d (.raw (.string (namesB l)))) := by
  refine con_of Tryz.func73 rfl (by decide +kernel) rfl rfl (by simp [Tryz.ntmps73]) fun A hA => ?_
  rw [Tryz.ntmps73] at hA
  refine goC 400 ?_
  simp only [go_sem, hA]
  refine satC_loop [0, 3, 4] [] [] (fun y σ => ∃ q : Nat, q ≤ l.length ∧ y = l.length - q ∧ σ = rnSt l q) l.length ⟨0, by omega, by omega, by simp only [go_sem, rnSt]; rfl⟩ ?_
  rintro y σ ⟨q, hq, rfl, rfl⟩
  refine goC 400 ?_
  by_cases hlt : q < l.length
  · have k1 : decide ((q : Int) < (l.length : Int)) = true := decide_eq_true (by omega)
    have hn := namesB_succ l q hlt
    have z1 := namesB_size (l.take q)
    have z2 := sumB_take l q
    have z3 := sumB_get l q hlt
    have z4 : (l.take q).length = q := by simp; omega
    have zl : (ByteArray.mk #[32, 124, 124, 32]).size = 4 := rfl
    have zn : (ByteArray.mk #[110, 105, 108]).size = 3 := rfl
    by_cases hq0 : 0 < q
    · have k2 : decide ((0 : Int) < (q : Int)) = true := decide_eq_true (by omega)
      rw [if_neg (by omega)] at hn
      by_cases hz : l[q] = ⟨#[]⟩
      · have k3 : decide (l[q] = ⟨#[]⟩) = true := decide_eq_true hz
        have hns : nilS l[q] = bs [110, 105, 108] := if_pos hz
        rw [hns] at hn
        simp only [go_sem, hA, rnSt, encS_length, k1, k2, k3, Int.toNat_natCast, encS_at l q hlt]
        refine ⟨?_, ⟨by omega, by omega⟩, ?_, by unfold inI64; omega, l.length - (q + 1), by omega, q + 1, by omega, rfl, by rw [hn]; rfl⟩
        all_goals omega
      · have k3 : decide (l[q] = ⟨#[]⟩) = false := decide_eq_false hz
        have hns : nilS l[q] = l[q] := if_neg hz
        rw [hns] at hn
        simp only [go_sem, hA, rnSt, encS_length, k1, k2, k3, Int.toNat_natCast, encS_at l q hlt]
        refine ⟨?_, ⟨by omega, by omega⟩, ⟨by omega, by omega⟩, ?_, by unfold inI64; omega, l.length - (q + 1), by omega, q + 1, by omega, rfl, by rw [hn]; rfl⟩
        all_goals omega
    · have k2 : decide ((0 : Int) < (q : Int)) = false := decide_eq_false (by omega)
      have hq1 : q = 0 := by omega
      rw [if_pos hq1] at hn
      have e0 : namesB (l.take q) = ⟨#[]⟩ := by rw [hq1, List.take_zero]; rfl
      have ea : ∀ s : ByteArray, (⟨#[]⟩ : ByteArray) ++ s = s := fun s => ba_inj (by rw [ba_app]; rfl)
      by_cases hz : l[q] = ⟨#[]⟩
      · have k3 : decide (l[q] = ⟨#[]⟩) = true := decide_eq_true hz
        have hns : nilS l[q] = bs [110, 105, 108] := if_pos hz
        rw [hns] at hn
        simp only [go_sem, hA, rnSt, encS_length, k1, k2, k3, Int.toNat_natCast, encS_at l q hlt]
        refine ⟨⟨by omega, by omega⟩, ?_, by unfold inI64; omega, l.length - (q + 1), by omega, q + 1, by omega, rfl, by rw [hn, e0, ea]; rfl⟩
        all_goals omega
      · have k3 : decide (l[q] = ⟨#[]⟩) = false := decide_eq_false hz
        have hns : nilS l[q] = l[q] := if_neg hz
        rw [hns] at hn
        simp only [go_sem, hA, rnSt, encS_length, k1, k2, k3, Int.toNat_natCast, encS_at l q hlt]
        refine ⟨⟨by omega, by omega⟩, ⟨by omega, by omega⟩, ?_, by unfold inI64; omega, l.length - (q + 1), by omega, q + 1, by omega, rfl, by rw [hn, e0, ea]; rfl⟩
        all_goals omega
  · have k1 : decide ((q : Int) < (l.length : Int)) = false := decide_eq_false (by omega)
    obtain rfl : q = l.length := by omega
    simp only [go_sem, hA, rnSt, encS_length, k1, List.take_length, Tryz.results73]
end Go.Proofs.YtnphcjpccieljaaGreatDoor

namespace Go.Proofs.YtnphcjpccieljaaGreatDoor
open Go Go.RowKit
theorem any_step {α : Type} {p : α → Bool} {l : List α} {q : Nat} (hq : q < l.length) (h : (l.take q).any p = false) (h1 : p l[q] = false) : (l.take (q + 1)).any p = false := by
  rw [List.take_succ_eq_append_getElem hq, List.any_append, h]
  simp [h1]
theorem any_hit {α : Type} {p : α → Bool} {l : List α} {q : Nat} (hq : q < l.length) (h1 : p l[q] = true) : l.any p = true := List.any_eq_true.2 ⟨l[q], List.getElem_mem hq, h1⟩
def greatU (l : List ByteArray) : Bool := decide (10 < l.length) || l.any fun s => decide (120 < s.size)
def greatDc (d : Dc) : Bool := decide (5 < d.names.length) || greatE d.body || d.names.any fun s => decide (100 < s.size)
def greatDs (l : List Dc) : Bool := decide (8 < l.length) || l.any greatDc
def greatS (x : Sr) : Bool := greatU x.uses || greatDs x.decls
abbrev guSt (l : List ByteArray) (q : Nat) : St := ⟨[(0, .d (.sl (encS l))), (3, .d (.raw (.int .i64 q)))], [], []⟩
set_option maxRecDepth 100000 in
set_option maxHeartbeats 8000000 in
theorem rGreatUses_c (l : List ByteArray) : Con Tryz.prog 36 [.d (.sl (encS l))] (.d (.raw (.bool (greatU l)))) := by
  refine con_of Tryz.func36 rfl (by decide +kernel) rfl rfl (by simp [Tryz.ntmps36]) fun A hA => ?_
  rw [Tryz.ntmps36] at hA
  refine goC 400 ?_
  by_cases h1 : 10 < l.length
  · have g1 : decide ((10 : Int) < (l.length : Int)) = true := decide_eq_true (by omega)
    have he : greatU l = true := by unfold greatU; rw [decide_eq_true h1]; rfl
    simp only [go_sem, hA, encS_length, g1, he, Tryz.results36]
  have g1 : decide ((10 : Int) < (l.length : Int)) = false := decide_eq_false (by omega)
  have he : greatU l = l.any fun s => decide (120 < s.size) := by unfold greatU; rw [decide_eq_false h1]; rfl
  simp only [go_sem, hA, encS_length, g1]
  refine satC_loop [0, 3] [] [] (fun y σ => ∃ q : Nat, q ≤ l.length ∧ y = l.length - q ∧ ((l.take q).any fun s => decide (120 < s.size)) = false ∧ σ = guSt l q) l.length ⟨0, by omega, by omega, rfl, by simp only [go_sem, guSt]⟩ ?_
  rintro y σ ⟨q, hq, rfl, hf, rfl⟩
  refine goC 400 ?_
  by_cases hlt : q < l.length
  · have k1 : decide ((q : Int) < (l.length : Int)) = true := decide_eq_true (by omega)
    by_cases h2 : 120 < l[q].size
    · have k2 : decide ((120 : Int) < (l[q].size : Int)) = true := decide_eq_true (by omega)
      rw [any_hit hlt (decide_eq_true h2)] at he
      simp only [go_sem, hA, guSt, encS_length, k1, Int.toNat_natCast, encS_at l q hlt, k2, he, Tryz.results36]
      exact ⟨by omega, by omega⟩
    · have k2 : decide ((120 : Int) < (l[q].size : Int)) = false := decide_eq_false (by omega)
      simp only [go_sem, hA, guSt, encS_length, k1, Int.toNat_natCast, encS_at l q hlt, k2]
      exact ⟨⟨by omega, by omega⟩, by unfold inI64; omega, l.length - (q + 1), by omega, q + 1, by omega, rfl, any_step hlt hf (decide_eq_false h2), rfl⟩
  · have k1 : decide ((q : Int) < (l.length : Int)) = false := decide_eq_false (by omega)
    obtain rfl : q = l.length := by omega
    rw [List.take_length] at hf
    rw [hf] at he
    simp only [go_sem, hA, guSt, encS_length, k1, he, Tryz.results36]
abbrev gdSt (l : List Dc) (q : Nat) : St := ⟨[(0, .d (.sl (encDs l))), (3, .d (.raw (.int .i64 q)))], [], []⟩
abbrev gd2St (l : List Dc) (q k : Nat) : St := ⟨[(0, .d (.sl (encDs l))), (3, .d (.raw (.int .i64 q))), (4, .d (.raw (.int .i64 k)))], [], []⟩
set_option maxRecDepth 100000 in
set_option maxHeartbeats 8000000 in
theorem rGreatDecls_c (l : List Dc) (hb : ∀ d ∈ l, nodesE d.body ≤ 1048576) : Con Tryz.prog 37 [.d (.sl (encDs l))] (.d (.raw (.bool (greatDs l)))) := by
  refine con_of Tryz.func37 rfl (by decide +kernel) rfl rfl (by simp [Tryz.ntmps37]) fun A hA => ?_
  rw [Tryz.ntmps37] at hA
  refine goC 400 ?_
  by_cases h1 : 8 < l.length
  · have g1 : decide ((8 : Int) < (l.length : Int)) = true := decide_eq_true (by omega)
    have he : greatDs l = true := by unfold greatDs; rw [decide_eq_true h1]; rfl
    simp only [go_sem, hA, encDs_length, g1, he, Tryz.results37]
  have g1 : decide ((8 : Int) < (l.length : Int)) = false := decide_eq_false (by omega)
  have he : greatDs l = l.any greatDc := by unfold greatDs; rw [decide_eq_false h1]; rfl
  simp only [go_sem, hA, encDs_length, g1]
  refine satC_loop [0, 3] [] [] (fun y σ => ∃ q : Nat, q ≤ l.length ∧ y = l.length - q ∧ (l.take q).any greatDc = false ∧ σ = gdSt l q) l.length ⟨0, by omega, by omega, rfl, by simp only [go_sem, gdSt]⟩ ?_
  rintro y σ ⟨q, hq, rfl, hf, rfl⟩
  refine goC 400 ?_
  by_cases hlt : q < l.length
  case neg =>
    have k1 : decide ((q : Int) < (l.length : Int)) = false := decide_eq_false (by omega)
    obtain rfl : q = l.length := by omega
    rw [List.take_length] at hf
    rw [hf] at he
    simp only [go_sem, hA, gdSt, encDs_length, k1, he, Tryz.results37]
  have k1 : decide ((q : Int) < (l.length : Int)) = true := decide_eq_true (by omega)
  obtain ⟨d, hd⟩ : ∃ d, l[q] = d := ⟨_, rfl⟩
  have cg := rGreat_c d.body (hb d (by rw [← hd]; exact List.getElem_mem hlt))
  have hhit : greatDc d = true → greatDs l = true := fun h => by rw [he]; exact any_hit hlt (by rw [hd]; exact h)
  by_cases h2 : 5 < d.names.length
  · have k2 : decide ((5 : Int) < (d.names.length : Int)) = true := decide_eq_true (by omega)
    have hr := hhit (by unfold greatDc; rw [decide_eq_true h2]; rfl)
    simp only [go_sem, hA, gdSt, encDs_length, encS_length, k1, Int.toNat_natCast, encDs_at l q hlt, hd, encD, k2, undef, hr, Tryz.results37]
    exact ⟨by omega, by omega⟩
  have k2 : decide ((5 : Int) < (d.names.length : Int)) = false := decide_eq_false (by omega)
  simp only [go_sem, hA, gdSt, encDs_length, encS_length, k1, Int.toNat_natCast, encDs_at l q hlt, hd, encD, k2]
  refine ⟨⟨by omega, by omega⟩, ⟨by omega, by omega⟩, ?_⟩
  refine goCall 300 cg rfl (by simp only [go_sem, avE_eq]) (by simp only [go_sem, hA]) ?_
  cases hg : greatE d.body with
  | true =>
    have hr := hhit (by unfold greatDc; rw [hg]; simp)
    simp only [go_sem, hA, hr, Tryz.results37]
  | false =>
    have hdc : greatDc d = d.names.any fun s => decide (100 < s.size) := by unfold greatDc; rw [hg, decide_eq_false h2]; rfl
    simp only [go_sem, hA]
    refine satC_loop [0, 3, 4] [] [] (fun y σ => ∃ k : Nat, k ≤ d.names.length ∧ y = d.names.length - k ∧ ((d.names.take k).any fun s => decide (100 < s.size)) = false ∧ σ = gd2St l q k) d.names.length ⟨0, by omega, by omega, rfl, by simp only [go_sem, gd2St]⟩ ?_
    rintro y σ ⟨k, hk, rfl, hf2, rfl⟩
    refine goC 400 ?_
    by_cases hkl : k < d.names.length
    · have k3 : decide ((k : Int) < (d.names.length : Int)) = true := decide_eq_true (by omega)
      by_cases h4 : 100 < d.names[k].size
      · have k4 : decide ((100 : Int) < (d.names[k].size : Int)) = true := decide_eq_true (by omega)
        have hr := hhit (by rw [hdc]; exact any_hit hkl (decide_eq_true h4))
        simp only [go_sem, hA, gd2St, encDs_length, encS_length, k3, Int.toNat_natCast, encDs_at l q hlt, hd, encD, encS_at d.names k hkl, k4, hr, Tryz.results37]
        exact ⟨⟨by omega, by omega⟩, ⟨by omega, by omega⟩, by omega, by omega⟩
      · have k4 : decide ((100 : Int) < (d.names[k].size : Int)) = false := decide_eq_false (by omega)
        simp only [go_sem, hA, gd2St, encDs_length, encS_length, k3, Int.toNat_natCast, encDs_at l q hlt, hd, encD, encS_at d.names k hkl, k4]
        exact ⟨⟨by omega, by omega⟩, ⟨by omega, by omega⟩, ⟨by omega, by omega⟩, by unfold inI64; omega, d.names.length - (k + 1), by omega, k + 1, by omega, rfl, any_step hkl hf2 (decide_eq_false h4), rfl⟩
    · have k3 : decide ((k : Int) < (d.names.length : Int)) = false := decide_eq_false (by omega)
      obtain rfl : k = d.names.length := by omega
      rw [List.take_length] at hf2
      simp only [go_sem, hA, gd2St, encDs_length, encS_length, k3, Int.toNat_natCast, encDs_at l q hlt, hd, encD]
      exact ⟨⟨by omega, by omega⟩, by unfold inI64; omega, l.length - (q + 1), by omega, q + 1, by omega, rfl, any_step hlt hf (by rw [hd, hdc]; exact hf2), rfl⟩
set_option maxRecDepth 100000 in
set_option maxHeartbeats 8000000 in
theorem rGreatSource_c (x : Sr) (hb : ∀ d ∈ x.decls, nodesE d.body ≤ 1048576) : Con Tryz.prog 11 [avS x] (.d (.raw (.bool (greatS x)))) := by
  have cu := rGreatUses_c x.uses
  have cd := rGreatDecls_c x.decls hb
  refine con_of Tryz.func11 rfl (by decide +kernel) rfl rfl (by simp [Tryz.ntmps11]) fun A hA => ?_
  rw [Tryz.ntmps11] at hA
  refine goC 400 ?_
  simp only [go_sem, hA, avS]
  refine goCall 300 cu rfl (by simp only [go_sem]) (by simp only [go_sem, hA]) ?_
  cases h : greatU x.uses with
  | true =>
    have hr : greatS x = true := by unfold greatS; rw [h]; rfl
    simp only [go_sem, hA, undef, hr, Tryz.results11]
  | false =>
    have hr : greatS x = greatDs x.decls := by unfold greatS; rw [h]; rfl
    simp only [go_sem, hA]
    refine goCall 300 cd rfl (by simp only [go_sem]) (by simp only [go_sem, hA]) ?_
    cases h2 : greatDs x.decls <;> rw [h2] at hr <;> simp only [go_sem, hA, hr, Tryz.results11]
end Go.Proofs.YtnphcjpccieljaaGreatDoor
