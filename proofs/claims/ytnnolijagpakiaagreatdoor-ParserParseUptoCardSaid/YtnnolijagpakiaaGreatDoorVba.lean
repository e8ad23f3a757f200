/- Texts of this proof, part 27: what the proof uses of them. -/
import Derived.Test.YtnnolijagpakiaaGreatDoorVan
import Derived.Test.YtnnolijagpakiaaGreatDoorVay
import Derived.Test.YtnnolijagpakiaaGreatDoorVav
import Derived.Test.YtnnolijagpakiaaGreatDoorVao
import Derived.Test.YtnnolijagpakiaaGreatDoorVam
import Derived.Test.YtnnolijagpakiaaGreatDoorVaz
import Derived.Test.YtnnolijagpakiaaGreatDoorVaq
import Derived.Test.YtnnolijagpakiaaGreatDoorVaw
namespace Go.Proofs.YtnnolijagpakiaaGreatDoor
section
section
open Go Go.RowKit
def usesX (l : List ByteArray) : Int := if 20 < l.length then 4 else firstN (useE l) l.length
abbrev ruSt (l : List ByteArray) (q : Nat) : St := ⟨[(0, .d (.sl (encS l))), (3, .d (.raw (.int .i64 q)))], [], []⟩
set_option maxRecDepth 100000 in
set_option maxHeartbeats 8000000 in
theorem rUses_c (l : List ByteArray) : Con Tryz.prog 34 [.d (.sl (encS l))] (.d (.raw (.int .i64 (usesX l)))) := by
 refine con_of Tryz.func34 rfl (by decide +kernel) rfl rfl (by simp [Tryz.ntmps34]) fun A hA => ?_
 rw [Tryz.ntmps34] at hA
 refine goC 400 ?_
 by_cases h1 : 20 < l.length
 ·have g1 : decide ((20 : Int) < (l.length : Int)) = true := decide_eq_true (by omega)
  have he : usesX l = 4 := if_pos h1
  simp only [go_sem, hA, encS_length, g1, he, Tryz.results34]
 have g1 : decide ((20 : Int) < (l.length : Int)) = false := decide_eq_false (by omega)
 have hs0 : usesX l = firstN (useE l) l.length := if_neg h1
 simp only [go_sem, hA, encS_length, g1]
 refine satC_loop [0, 3] [] [] (fun y σ => ∃ q : Nat, q ≤ l.length ∧ y = l.length - q ∧ firstN (useE l) q = 0 ∧ σ = ruSt l q) l.length ⟨0, by omega, by omega, rfl, by simp only [go_sem, ruSt]⟩ ?_
 rintro y σ ⟨q, hq, rfl, hf, rfl⟩
 refine goC 400 ?_
 by_cases hlt : q < l.length
 ·have k1 : decide ((q : Int) < (l.length : Int)) = true := decide_eq_true (by omega)
  have hc := rLabel_c l[q]
  have hat := atB_get l q hlt
  have hhit : ∀ e : Int, ¬ e = 0 → useE l q = e → usesX l = e := fun e h0 h => by
   have h2 := firstN_hit (n := l.length) hf hlt (by rw [h]; exact h0)
   rw [hs0, h2, h]
  simp only [go_sem, hA, ruSt, encS_length, k1, Int.toNat_natCast, encS_at l q hlt]
  refine ⟨⟨by omega, by omega⟩, ?_⟩
  refine goCall 300 hc rfl (by simp only [go_sem]) (by simp only [go_sem, hA]) ?_
  cases hl : labelL l[q].data.toList with
  | false =>
   have hr := hhit 6 (by decide) (by unfold useE; rw [hat, hl]; rfl)
   simp only [go_sem, hA, hr, Tryz.results34]
  | true =>
   have hu : useE l q = if 0 < q ∧ ltS (atB l (q - 1)) (atB l q) = false then 10 else 0 := by unfold useE; rw [hat, hl]; rfl
   by_cases hq0 : 0 < q
   ·have k2 : decide ((0 : Int) < (q : Int)) = true := decide_eq_true (by omega)
    have hq1 : ((q : Int) - 1).toNat = q - 1 := by omega
    have hat1 := atB_get l (q - 1) (by omega)
    have hin : inI64 ((q : Int) - 1) := by unfold inI64; omega
    have hw : IntKind.i64.wrap ((q : Int) - 1) = (q : Int) - 1 := wrapI64 hin
    cases hls : ltS l[q - 1] l[q] with
    | false =>
     have hls' : Op.bytesLess l[q - 1].data.toList l[q].data.toList = false := hls
     have hr := hhit 10 (by decide) (by rw [hu, hat, hat1, if_pos ⟨hq0, hls⟩])
     simp only [go_sem, hA, k2, encS_length, hq1, Int.toNat_natCast, encS_at l q hlt, encS_at l (q - 1) (by omega), hls', hr, mixed, Tryz.results34]
     exact ⟨hin, ⟨by omega, by omega⟩, ⟨by omega, by omega⟩, by show chk _ _ _ = true; kernel_rfl⟩
    | true =>
     have hls' : Op.bytesLess l[q - 1].data.toList l[q].data.toList = true := hls
     have hz := firstN_step hf (by rw [hu, hat, hat1, hls, if_neg (by simp)])
     simp only [go_sem, hA, k2, encS_length, hq1, Int.toNat_natCast, encS_at l q hlt, encS_at l (q - 1) (by omega), hls', mixed]
     exact ⟨hin, ⟨by omega, by omega⟩, ⟨by omega, by omega⟩, ⟨by show chk _ _ _ = true; kernel_rfl, by unfold inI64; omega, l.length - (q + 1), by omega, q + 1, by omega, rfl, hz, rfl⟩⟩
   ·have k2 : decide ((0 : Int) < (q : Int)) = false := decide_eq_false (by omega)
    have hz := firstN_step hf (by rw [hu, if_neg (fun h => hq0 h.1)])
    simp only [go_sem, hA, k2, undef, mixed]
    exact ⟨by show chk _ _ _ = true; kernel_rfl, by unfold inI64; omega, l.length - (q + 1), by omega, q + 1, by omega, rfl, hz, rfl⟩
 have k1 : decide ((q : Int) < (l.length : Int)) = false := decide_eq_false (by omega)
 obtain rfl : q = l.length := by omega
 rw [hf] at hs0
 simp only [go_sem, hA, ruSt, encS_length, k1, hs0, Tryz.results34]
theorem srcX_uses (e : Dc → Int) (x : Sr) : srcX e x = if ¬ usesX x.uses = 0 then usesX x.uses else if 100 < x.decls.length then 4 else firstN (declE e x.decls) x.decls.length := by
 unfold srcX usesX
 by_cases h : 20 < x.uses.length
 ·rw [if_pos h, if_pos h, if_pos (by decide)]
 ·rw [if_neg h, if_neg h]
def rdX (x : Dc) : Int := if ¬ checkDX x = 0 then checkDX x else if kindsE 5 x.body then 9 else 0
theorem rdX_eq (x : Dc) : rdX x = sdeclX x := by
 have n1 : ¬ (1 : Int) = 0 := by decide
 have n2 : ¬ (2 : Int) = 0 := by decide
 have n6 : ¬ (6 : Int) = 0 := by decide
 have n9 : ¬ (9 : Int) = 0 := by decide
 have n0 : ¬ ¬ (0 : Int) = 0 := by decide
 unfold rdX sdeclX checkDX namesX
 by_cases h1 : x.id < 0 ∨ 999999 < x.id
 ·rw [if_pos h1, if_pos h1, if_pos n2]
 rw [if_neg h1, if_neg h1]
 by_cases h2 : x.kind < 1 ∨ 3 < x.kind
 ·rw [if_pos h2, if_pos h2, if_pos n9]
 rw [if_neg h2, if_neg h2]
 by_cases h3 : ¬ x.names.length = 1 ∧ ¬ x.names.length = 3
 ·rw [if_pos h3, if_pos h3, if_pos n1, if_pos n1]
 rw [if_neg h3, if_neg h3]
 by_cases h4 : x.names.any (badName x.names) = true
 ·rw [if_pos h4, if_pos h4, if_pos n6, if_pos n6]
 rw [if_neg h4, if_neg h4, if_neg n0]
theorem declE_congr {e f : Dc → Int} (h : ∀ d, e d = f d) (l : List Dc) (q : Nat) : declE e l q = declE f l q := by unfold declE; rw [h]
theorem srcX_eq (x : Sr) : srcX rdX x = srcX sdeclX x := by
 unfold srcX
 rw [firstN_congr _ fun i _ => declE_congr rdX_eq x.decls i]
theorem ones_has {l : List Dc} {k q : Nat} (hk : k < q) (hl : k < l.length) (h1 : (atD l k).names.length = 1) : hasS (ones (l.take q)) (atB (atD l k).names 0) = true := by
 have hm : atD l k ∈ l.take q := by
  rw [atD_get l k hl]
  have : (l.take q)[k]'(by rw [List.length_take]; omega) = l[k] := by simp
  rw [← this]
  exact List.getElem_mem _
 unfold hasS ones
 rw [List.any_eq_true]
 refine ⟨atB (atD l k).names 0, List.mem_filterMap.2 ⟨_, hm, by unfold oneOf; rw [if_pos h1]⟩, by simp⟩
theorem hasS_snoc (l : List ByteArray) (s t : ByteArray) : hasS (l ++ [s]) t = (hasS l t || decide (s = t)) := by simp [hasS]
abbrev rs1St (x : Sr) (q : Nat) : St := ⟨[(1, .box 0 0), (4, .d (.raw (.int .i64 q)))], [(0, some (.cell 26 [.d (.sl (encS x.uses)), .d (.sl (encDs x.decls))]))], []⟩
abbrev rs2St (x : Sr) (d : Dc) (q k : Nat) : St := ⟨[(1, .box 0 0), (4, .d (.raw (.int .i64 q))), (5, .box 9005 0), (6, .d (.raw (.int .i64 k)))], [(0, some (.cell 26 [.d (.sl (encS x.uses)), .d (.sl (encDs x.decls))])),
 (9005, some (.cell 57 [.d (.raw (.int .i64 d.id)), .d (.raw (.int .i64 d.kind)), .d (.raw (.bool d.pub)), .d (.sl (encS d.names)), .d (.raw (.bool d.doubt)), .d (.raw (.int .i64 d.body.kind)), .d (.raw (.string d.body.name)), .d (.raw (.string d.body.more)), .d (.raw (.int .i64 d.body.int)), .d (.raw (.int .i64 d.body.den)), .d (.sl (encL d.body.sub))]))], []⟩
set_option maxRecDepth 100000 in
set_option maxHeartbeats 16000000 in
theorem rsource_c (x : Sr) (hb : ∀ d ∈ x.decls, nodesE d.body ≤ 524288) : Con Tryz.prog 33 [avS x] (.d (.raw (.int .i64 (srcX rdX x)))) := by
 have cu := rUses_c x.uses
 have hs0 := srcX_uses rdX x
 refine con_of Tryz.func33 rfl (by decide +kernel) rfl rfl (by simp [Tryz.ntmps33]) fun A hA => ?_
 rw [Tryz.ntmps33] at hA
 refine goC 400 ?_
 simp only [go_sem, hA, avS]
 refine goCall 300 cu rfl (by simp only [go_sem]) (by simp only [go_sem, hA]) ?_
 by_cases h1 : usesX x.uses = 0
 case neg =>
  have g1 : (decide ¬ usesX x.uses = 0) = true := decide_eq_true h1
  rw [if_pos h1] at hs0
  simp only [go_sem, hA, g1, hs0, Tryz.results33]
 have g1 : (decide ¬ usesX x.uses = 0) = false := decide_eq_false (fun h => h h1)
 rw [if_neg (fun h => h h1)] at hs0
 by_cases h2 : 100 < x.decls.length
 ·have g2 : decide ((100 : Int) < (x.decls.length : Int)) = true := decide_eq_true (by omega)
  rw [if_pos h2] at hs0
  simp only [go_sem, hA, encDs_length, g1, g2, hs0, Tryz.results33]
 have g2 : decide ((100 : Int) < (x.decls.length : Int)) = false := decide_eq_false (by omega)
 rw [if_neg h2] at hs0
 simp only [go_sem, hA, encDs_length, g1, g2]
 refine satC_loop [1, 4] [0] [] (fun y σ => ∃ q : Nat, q ≤ x.decls.length ∧ y = x.decls.length - q ∧ firstN (declE rdX x.decls) q = 0 ∧ σ = rs1St x q) x.decls.length ⟨0, by omega, by omega, rfl, by simp only [go_sem, rs1St]⟩ ?_
 rintro y σ ⟨q, hq, rfl, hf2, rfl⟩
 refine goC 400 ?_
 by_cases hlt : q < x.decls.length
 case neg =>
  have k1 : decide ((q : Int) < (x.decls.length : Int)) = false := decide_eq_false (by omega)
  obtain rfl : q = x.decls.length := by omega
  rw [hf2] at hs0
  simp only [go_sem, hA, rs1St, encDs_length, k1, hs0, Tryz.results33]
 have k1 : decide ((q : Int) < (x.decls.length : Int)) = true := decide_eq_true (by omega)
 have hat := atD_get x.decls q hlt
 have hlen : x.decls.length ≤ 100 := by omega
 obtain ⟨d, hd⟩ : ∃ d, x.decls[q] = d := ⟨_, rfl⟩
 rw [hd] at hat
 have hbd := hb d (by rw [← hd]; exact List.getElem_mem hlt)
 have hc := rCheckDecl_c d hbd
 have ck := rKinds_c 5 (nodesE d.body + 1) d.body (by omega) (by omega)
 have hhit : ∀ e : Int, ¬ e = 0 → declE rdX x.decls q = e → srcX rdX x = e := fun e h0 h => by
  have h2 := firstN_hit (n := x.decls.length) hf2 hlt (by rw [h]; exact h0)
  rw [hs0, h2, h]
 simp only [go_sem, hA, rs1St, encDs_length, k1, Int.toNat_natCast, encDs_at x.decls q hlt, hd, encD]
 refine ⟨⟨by omega, by omega⟩, ?_⟩
 refine goCall 300 hc rfl (by simp only [go_sem, avD]) (by simp only [go_sem, hA]) ?_
 by_cases he : checkDX d = 0
 case neg =>
  have k2 : (decide ¬ checkDX d = 0) = true := decide_eq_true he
  have hrd : rdX d = checkDX d := if_pos he
  have hr := hhit (checkDX d) he (by unfold declE; rw [hat, hrd, if_pos he])
  simp only [go_sem, hA, k2, hr, Tryz.results33]
 have k2 : (decide ¬ checkDX d = 0) = false := decide_eq_false (fun h => h he)
 simp only [go_sem, hA, k2]
 refine goCall 300 ck rfl (by simp only [go_sem, avE_eq]) (by simp only [go_sem, hA]) ?_
 cases h5 : kindsE 5 d.body with
 | true =>
  have hrd : rdX d = 9 := by unfold rdX; rw [if_neg (fun h => h he), h5]; rfl
  have hr := hhit 9 (by decide) (by unfold declE; rw [hat, hrd, if_pos (by decide)])
  simp only [go_sem, hA, hr, Tryz.results33]
 | false =>
  have hrd : rdX d = 0 := by unfold rdX; rw [if_neg (fun h => h he), h5]; rfl
  have hde : declE rdX x.decls q = if misplaced x.decls q then 10 else if d.names.length = 1 ∧ hasS (ones (x.decls.take q)) (atB d.names 0) then 7 else 0 := by unfold declE; rw [hat, hrd, if_neg (by decide)]
  have hq1 : ((q : Int) - 1).toNat = q - 1 := by omega
  have hin : inI64 ((q : Int) - 1) := by unfold inI64; omega
  have hw : IntKind.i64.wrap ((q : Int) - 1) = (q : Int) - 1 := wrapI64 hin
  cases hm : misplaced x.decls q with
  | true =>
   have hm' := hm
   simp only [misplaced, hat, Bool.and_eq_true, Bool.or_eq_true, decide_eq_true_eq] at hm'
   obtain ⟨⟨hq0, hid⟩, hor⟩ := hm'
   have hr := hhit 10 (by decide) (by rw [hde, hm, if_pos rfl])
   have k3 : (decide ¬ d.id = 0) = true := decide_eq_true hid
   have k4 : decide ((0 : Int) < (q : Int)) = true := decide_eq_true (by omega)
   have hat1 := atD_get x.decls (q - 1) (by omega)
   rw [hat1] at hor
   by_cases hp : d.id ≤ x.decls[q - 1].id
   ·have k5 : decide (d.id ≤ x.decls[q - 1].id) = true := decide_eq_true hp
    simp only [go_sem, hA, k3, k4, encDs_length, hq1, encDs_at x.decls (q - 1) (by omega), encD, k5, undef, mixed, hr, Tryz.results33]
    exact ⟨hin, ⟨by omega, by omega⟩, by show chk _ _ _ = true; kernel_rfl⟩
   ·have k5 : decide (d.id ≤ x.decls[q - 1].id) = false := decide_eq_false hp
    have k6 : decide (x.decls[q - 1].id = 0) = true := decide_eq_true (by rcases hor with h | h; exact h; exact absurd h hp)
    simp only [go_sem, hA, k3, k4, encDs_length, hq1, encDs_at x.decls (q - 1) (by omega), encD, k5, k6, mixed, hr, Tryz.results33]
    exact ⟨hin, ⟨by omega, by omega⟩, hin, ⟨by omega, by omega⟩, by show chk _ _ _ = true; kernel_rfl⟩
  | false =>
   rw [hm, if_neg (by decide)] at hde
   have hm' : d.id = 0 ∨ (¬ d.id = 0 ∧ ¬ 0 < q) ∨ (¬ d.id = 0 ∧ 0 < q ∧ ¬ (atD x.decls (q - 1)).id = 0 ∧ ¬ d.id ≤ (atD x.decls (q - 1)).id) := by
    by_cases e1 : d.id = 0
    ·exact .inl e1
    by_cases e2 : 0 < q
    ·refine .inr (.inr ⟨e1, e2, ?_⟩)
     simp only [misplaced, hat, decide_eq_true e2, decide_eq_true e1, Bool.true_and, Bool.or_eq_false_iff, decide_eq_false_iff_not] at hm
     exact hm
    ·exact .inr (.inl ⟨e1, e2⟩)
   rcases hm' with e1 | ⟨e1, e2⟩ | ⟨e1, e2, e3, e4⟩
   case' inl =>
    have k3 : (decide ¬ d.id = 0) = false := decide_eq_false (fun h => h e1)
    by_cases e2 : 0 < q
    case' pos =>
     have k4 : decide ((0 : Int) < (q : Int)) = true := decide_eq_true (by omega)
     simp only [go_sem, hA, k3, k4, undef, mixed]
    case' neg =>
     have k4 : decide ((0 : Int) < (q : Int)) = false := decide_eq_false (by omega)
     simp only [go_sem, hA, k4, undef, mixed]
   case' inr.inl =>
    have k4 : decide ((0 : Int) < (q : Int)) = false := decide_eq_false (by omega)
    simp only [go_sem, hA, k4, undef, mixed]
   case' inr.inr =>
    have k3 : (decide ¬ d.id = 0) = true := decide_eq_true e1
    have k4 : decide ((0 : Int) < (q : Int)) = true := decide_eq_true (by omega)
    have hat1 := atD_get x.decls (q - 1) (by omega)
    rw [hat1] at e3 e4
    have k5 : decide (x.decls[q - 1].id = 0) = false := decide_eq_false e3
    have k6 : decide (d.id ≤ x.decls[q - 1].id) = false := decide_eq_false e4
    simp only [go_sem, hA, k3, k4, encDs_length, hq1, encDs_at x.decls (q - 1) (by omega), encD, k5, k6, mixed]
    refine ⟨hin, ⟨by omega, by omega⟩, hin, ⟨by omega, by omega⟩, ?_⟩
   all_goals
    refine ⟨by show chk _ _ _ = true; kernel_rfl, ?_⟩
    refine satC_loop [1, 4, 5, 6] [0, 9005] [] (fun y σ => ∃ k : Nat, k ≤ q ∧ y = q - k ∧ (d.names.length = 1 → hasS (ones (x.decls.take k)) (atB d.names 0) = false) ∧ σ = rs2St x d q k) q ⟨0, by omega, by omega, fun _ => rfl, by simp only [go_sem, rs2St]⟩ ?_
    rintro y σ ⟨k, hk, rfl, hnone, rfl⟩
    refine goC 400 ?_
    have fin : (d.names.length = 1 → hasS (ones (x.decls.take q)) (atB d.names 0) = false) → firstN (declE rdX x.decls) (q + 1) = 0 := fun h => firstN_step hf2 (by
     rw [hde, if_neg]
     rintro ⟨h6, h7⟩
     rw [h h6] at h7; cases h7)
    by_cases hkq : k < q
    case neg =>
     obtain rfl : k = q := by omega
     have k7 : decide ((k : Int) < (k : Int)) = false := decide_eq_false (by omega)
     simp only [go_sem, hA, rs2St, k7, undef]
     exact ⟨by unfold inI64; omega, x.decls.length - (k + 1), by omega, k + 1, by omega, rfl, fin hnone, rfl⟩
    have k7 : decide ((k : Int) < (q : Int)) = true := decide_eq_true (by omega)
    by_cases hl : d.names.length = 1
    case neg =>
     have k8 : decide ((d.names.length : Int) = 1) = false := decide_eq_false (by omega)
     simp only [go_sem, hA, rs2St, k7, k8, encS_length]
     exact ⟨by unfold inI64; omega, x.decls.length - (q + 1), by omega, q + 1, by omega, rfl, fin (fun h => absurd h hl), rfl⟩
    have k8 : decide ((d.names.length : Int) = 1) = true := decide_eq_true (by omega)
    have hkl : k < x.decls.length := by omega
    have hone := ones_succ x.decls k hkl
    have hatk := atD_get x.decls k hkl
    obtain ⟨e, hek⟩ : ∃ e, x.decls[k] = e := ⟨_, rfl⟩
    rw [hek] at hatk
    rw [hatk] at hone
    by_cases hle : e.names.length = 1
    ·have k9 : decide ((e.names.length : Int) = 1) = true := decide_eq_true (by omega)
     rw [if_pos hle] at hone
     by_cases heq : atB e.names 0 = atB d.names 0
     ·have k10 : decide (atB e.names 0 = atB d.names 0) = true := decide_eq_true heq
      have hh := ones_has (l := x.decls) hkq hkl (by rw [hatk]; exact hle)
      rw [hatk, heq] at hh
      have hr := hhit 7 (by decide) (by rw [hde, if_pos ⟨hl, hh⟩])
      simp only [go_sem, hA, rs2St, k7, k8, k9, k10, encS_length, encDs_length, Int.toNat_natCast, encDs_at x.decls k hkl, hek, encD, encS_atB e.names 0 (by omega), encS_atB d.names 0 (by omega), mixed, hr, Tryz.results33]
      exact ⟨⟨by omega, by omega⟩, ⟨by omega, by omega⟩, by omega, by omega, by show chk _ _ _ = true; kernel_rfl⟩
     ·have k10 : decide (atB e.names 0 = atB d.names 0) = false := decide_eq_false heq
      simp only [go_sem, hA, rs2St, k7, k8, k9, k10, encS_length, encDs_length, Int.toNat_natCast, encDs_at x.decls k hkl, hek, encD, encS_atB e.names 0 (by omega), encS_atB d.names 0 (by omega), mixed]
      exact ⟨⟨by omega, by omega⟩, ⟨by omega, by omega⟩, by omega, by omega, by show chk _ _ _ = true; kernel_rfl, by unfold inI64; omega, q - (k + 1), by omega, k + 1, by omega, rfl, fun _ => by rw [hone, hasS_snoc, hnone hl, decide_eq_false heq]; rfl, rfl⟩
    ·have k9 : decide ((e.names.length : Int) = 1) = false := decide_eq_false (by omega)
     rw [if_neg hle, List.append_nil] at hone
     simp only [go_sem, hA, rs2St, k7, k8, k9, encS_length, encDs_length, Int.toNat_natCast, encDs_at x.decls k hkl, hek, encD, undef, mixed]
     exact ⟨⟨by omega, by omega⟩, by show chk _ _ _ = true; kernel_rfl, by unfold inI64; omega, q - (k + 1), by omega, k + 1, by omega, rfl, fun _ => by rw [hone]; exact hnone hl, rfl⟩
end
section
open Go Go.RowKit
end
section
open Go Go.RowKit
def sameDc (x y : Dc) : Bool := decide (x.id = y.id) && (decide (x.kind = y.kind) && ((x.pub == y.pub) && ((x.doubt == y.doubt) && (sameS x.names y.names && sameE x.body y.body))))
theorem sameDc_iff (x y : Dc) : sameDc x y = true ↔ x = y := by
 obtain ⟨a1, a2, a3, a4, a5, a6⟩ := x
 obtain ⟨b1, b2, b3, b4, b5, b6⟩ := y
 simp only [sameDc, Bool.and_eq_true, decide_eq_true_eq, beq_iff_eq, sameS_iff, sameE_iff, Dc.mk.injEq]
 exact ⟨fun ⟨h1, h2, h3, h4, h5, h6⟩ => ⟨h1, h2, h3, h5, h4, h6⟩, fun ⟨h1, h2, h3, h5, h4, h6⟩ => ⟨h1, h2, h3, h4, h5, h6⟩⟩
def sameDs : List Dc → List Dc → Bool
 | [], [] => true
 | x :: xs, y :: ys => sameDc x y && sameDs xs ys
 | _, _ => false
theorem sameDs_iff : ∀ a b : List Dc, sameDs a b = true ↔ a = b
 | [], [] => by simp [sameDs]
 | x :: xs, y :: ys => by simp only [sameDs, Bool.and_eq_true, sameDc_iff, sameDs_iff xs ys, List.cons.injEq]
 | [], y :: ys => by simp [sameDs]
 | x :: xs, [] => by simp [sameDs]
theorem sameDs_false {a b : List Dc} (h : a ≠ b) : sameDs a b = false := by
 cases hc : sameDs a b
 ·rfl
 ·exact absurd ((sameDs_iff a b).1 hc) h
def sameSr (x y : Sr) : Bool := sameS x.uses y.uses && sameDs x.decls y.decls
theorem sameSr_iff (x y : Sr) : sameSr x y = true ↔ x = y := by
 obtain ⟨a1, a2⟩ := x
 obtain ⟨b1, b2⟩ := y
 simp only [sameSr, Bool.and_eq_true, sameS_iff, sameDs_iff, Sr.mk.injEq]
set_option maxRecDepth 100000 in
set_option maxHeartbeats 8000000 in
theorem rSameDecl_c (x y : Dc) (hb : nodesE x.body ≤ 1048576) (hn : x.names.length ≤ 1048576) : Con Tryz.prog 73 [avD x, avD y] (.d (.raw (.bool (sameDc x y)))) := by
 have cs := rSameStrings_c x.names y.names hn
 have ce := rSame_c x.body y.body (by omega)
 refine con_of Tryz.func73 rfl (by decide +kernel) rfl rfl (by simp [Tryz.ntmps73]) fun A hA => ?_
 rw [Tryz.ntmps73] at hA
 refine goC 400 ?_
 have he : sameDc x y = (decide (x.id = y.id) && (decide (x.kind = y.kind) && ((x.pub == y.pub) && ((x.doubt == y.doubt) && (sameS x.names y.names && sameE x.body y.body))))) := rfl
 cases g1 : decide (x.id = y.id) with
 | false =>
  rw [g1] at he
  simp only [Bool.false_and] at he
  simp only [go_sem, hA, avD, g1, undef, he, Tryz.results73]
 | true =>
 cases g2 : decide (x.kind = y.kind) with
 | false =>
  rw [g1, g2] at he
  simp only [Bool.false_and, Bool.true_and] at he
  simp only [go_sem, hA, avD, g1, g2, undef, he, Tryz.results73]
 | true =>
 cases g3 : (x.pub == y.pub) with
 | false =>
  rw [g1, g2, g3] at he
  simp only [Bool.false_and, Bool.true_and] at he
  simp only [go_sem, hA, avD, g1, g2, g3, undef, he, Tryz.results73]
 | true =>
 cases g4 : (x.doubt == y.doubt) with
 | false =>
  rw [g1, g2, g3, g4] at he
  simp only [Bool.false_and, Bool.true_and] at he
  simp only [go_sem, hA, avD, g1, g2, g3, g4, undef, he, Tryz.results73]
 | true =>
 rw [g1, g2, g3, g4] at he
 simp only [Bool.true_and] at he
 simp only [go_sem, hA, avD, g1, g2, g3, g4]
 refine goCall 300 cs rfl (by simp only [go_sem]) (by simp only [go_sem, hA]) ?_
 cases g5 : sameS x.names y.names with
 | false =>
  rw [g5] at he
  simp only [Bool.false_and] at he
  simp only [go_sem, hA, undef, he, Tryz.results73]
 | true =>
  rw [g5] at he
  simp only [Bool.true_and] at he
  simp only [go_sem, hA]
  refine goCall 300 ce rfl (by simp only [go_sem, avE_eq]) (by simp only [go_sem, hA]) ?_
  cases g6 : sameE x.body y.body <;> rw [g6] at he <;> simp only [go_sem, hA, he, Tryz.results73]
abbrev smdSt (l m : List Dc) (q : Nat) : St := ⟨[(0, .d (.sl (encDs l))), (1, .d (.sl (encDs m))), (5, .d (.raw (.int .i64 q)))], [], []⟩
set_option maxRecDepth 100000 in
set_option maxHeartbeats 8000000 in
theorem rSameDecls_c (l m : List Dc) (hl : l.length ≤ 1048576) (hb : ∀ d ∈ l, nodesE d.body ≤ 1048576 ∧ d.names.length ≤ 1048576) : Con Tryz.prog 37 [.d (.sl (encDs l)), .d (.sl (encDs m))] (.d (.raw (.bool (sameDs l m)))) := by
 refine con_of Tryz.func37 rfl (by decide +kernel) rfl rfl (by simp [Tryz.ntmps37]) fun A hA => ?_
 rw [Tryz.ntmps37] at hA
 refine goC 300 ?_
 by_cases hlm : l.length = m.length
 ·have g0 : (decide ¬ (l.length : Int) = (m.length : Int)) = false := decide_eq_false (by omega)
  simp only [go_sem, hA, encDs_length, g0]
  refine satC_loop [0, 1, 5] [] [] (fun x σ => ∃ q : Nat, q ≤ l.length ∧ x = l.length - q ∧ l.take q = m.take q ∧ σ = smdSt l m q) l.length ⟨0, by omega, by omega, rfl, by simp only [go_sem, smdSt]⟩ ?_
  rintro x σ ⟨q, hq, rfl, hf, rfl⟩
  refine goC 400 ?_
  by_cases hlt : q < l.length
  ·have g1 : decide ((q : Int) < (l.length : Int)) = true := decide_eq_true (by omega)
   have hq2 : q < m.length := by omega
   obtain ⟨hb1, hb2⟩ := hb l[q] (List.getElem_mem hlt)
   have cs := rSameDecl_c l[q] m[q] hb1 hb2
   obtain ⟨d, hd⟩ : ∃ d, l[q] = d := ⟨_, rfl⟩
   obtain ⟨e, he⟩ : ∃ e, m[q] = e := ⟨_, rfl⟩
   rw [hd, he] at cs
   simp only [go_sem, hA, smdSt, encDs_length, g1, Int.toNat_natCast, encDs_at l q hlt, encDs_at m q hq2, hd, he, encD, mixed]
   refine ⟨⟨by omega, by omega⟩, ⟨by omega, by omega⟩, ?_⟩
   refine goCallD 300 cs rfl (by simp only [go_sem, avD]) (by simp only [go_sem, hA]) ?_
   cases hs : sameDc d e with
   | true =>
    have hde := (sameDc_iff d e).1 hs
    simp only [go_sem, hA]
    exact ⟨by show chk _ _ _ = true; kernel_rfl, by unfold inI64; omega, l.length - (q + 1), by omega, q + 1, by omega, rfl, by rw [List.take_succ_eq_append_getElem hlt, List.take_succ_eq_append_getElem hq2, hf, hd, he, hde], rfl⟩
   | false =>
    have hne : sameDs l m = false := sameDs_false fun e' => by
     subst e'
     rw [hd] at he
     rw [(sameDc_iff d e).2 he] at hs
     cases hs
    simp only [go_sem, hA, hne, Tryz.results37]
    exact by show chk _ _ _ = true; kernel_rfl
  ·have g1 : decide ((q : Int) < (l.length : Int)) = false := decide_eq_false (by omega)
   obtain rfl : q = l.length := by omega
   have he : l = m := by rw [List.take_length, List.take_of_length_le (by omega)] at hf; exact hf
   have hs : sameDs l m = true := (sameDs_iff _ _).2 he
   simp only [go_sem, hA, smdSt, encDs_length, g1, Tryz.results37, hs]
 ·have g0 : (decide ¬ (l.length : Int) = (m.length : Int)) = true := decide_eq_true (by omega)
  have hne : sameDs l m = false := sameDs_false fun e => hlm (by rw [e])
  simp only [go_sem, hA, encDs_length, g0, Tryz.results37, hne]
set_option maxRecDepth 100000 in
set_option maxHeartbeats 8000000 in
theorem rSameSource_c (x y : Sr) (hu : x.uses.length ≤ 1048576) (hl : x.decls.length ≤ 1048576) (hb : ∀ d ∈ x.decls, nodesE d.body ≤ 1048576 ∧ d.names.length ≤ 1048576) : Con Tryz.prog 14 [avS x, avS y] (.d (.raw (.bool (sameSr x y)))) := by
 have cu := rSameStrings_c x.uses y.uses hu
 have cd := rSameDecls_c x.decls y.decls hl hb
 refine con_of Tryz.func14 rfl (by decide +kernel) rfl rfl (by simp [Tryz.ntmps14]) fun A hA => ?_
 rw [Tryz.ntmps14] at hA
 refine goC 400 ?_
 simp only [go_sem, hA, avS]
 refine goCall 300 cu rfl (by simp only [go_sem]) (by simp only [go_sem, hA]) ?_
 cases h : sameS x.uses y.uses with
 | false =>
  have hr : sameSr x y = false := by unfold sameSr; rw [h]; rfl
  simp only [go_sem, hA, undef, hr, Tryz.results14]
 | true =>
  have hr : sameSr x y = sameDs x.decls y.decls := by unfold sameSr; rw [h]; rfl
  simp only [go_sem, hA]
  refine goCall 300 cd rfl (by simp only [go_sem]) (by simp only [go_sem, hA]) ?_
  cases h2 : sameDs x.decls y.decls <;> rw [h2] at hr <;> simp only [go_sem, hA, hr, Tryz.results14]
end
end
section
open Go Go.RowKit
end
section
open Go Go.RowKit
end
section
section
open Go Go.RowKit
end
section
open Go Go.RowKit
theorem avX0 (t : List LTok) : avX t (t.map kt, false) = .agg [.d (.sl (encTs t)), .d (.raw (.int .i64 0)), .d (.raw (.bool false))] := by
 show AV.agg [.d (.sl (encTs t)), .d (.raw (.int .i64 ((t.length - (t.map kt).length : Nat) : Int))), .d (.raw (.bool false))] = _
 rw [List.length_map, Nat.sub_self]; rfl
end
section
open Go Go.RowKit
theorem con_b {P : Program} {f : FuncId} {c : Int} {r : Value} (he : Enters P f) (h : ∀ (w : World), Calls P f #[.int .u8 c] w fun e w' => e = .returned r ∧ w = w') : Con P f [.d (.raw (.int .u8 c))] (.d (.raw r)) := by
 refine ⟨he, rfl, fun F w vs hF _ hl hv => ?_⟩
 match vs, hl with
 | [v], _ =>
  have h0 := hv 0 (by simp) (by simp)
  simp only [List.getElem_cons_zero] at h0
  unfold HasC at h0
  rw [h0.raw_eq]
  exact (h w).mono fun e w' h' => ⟨r, h'.1, .d (.raw _), h'.2 ▸ Below.refl _ _⟩
theorem con_si {P : Program} {f : FuncId} {s : ByteArray} {i : Int} {r : Value} (he : Enters P f) (h : ∀ (w : World), Calls P f #[.string s, .int .i64 i] w fun e w' => e = .returned r ∧ w = w') : Con P f [.d (.raw (.string s)), .d (.raw (.int .i64 i))] (.d (.raw r)) := by
 refine ⟨he, rfl, fun F w vs hF _ hl hv => ?_⟩
 match vs, hl with
 | [v, u], _ =>
  have h0 := hv 0 (by simp) (by simp)
  have h1 := hv 1 (by simp) (by simp)
  simp only [List.getElem_cons_zero, List.getElem_cons_succ] at h0 h1
  unfold HasC at h0 h1
  rw [h0.raw_eq, h1.raw_eq]
  exact (h w).mono fun e w' h' => ⟨r, h'.1, .d (.raw _), h'.2 ▸ Below.refl _ _⟩
theorem head_drop (l : List UInt8) (i : Nat) : (l.drop i).head?.getD 0 = l.getD i 0 := by
 rw [List.head?_drop, List.getD_eq_getElem?_getD]
abbrev tkZ : Blk := .cell 43 [.d (.raw (.int .i64 0)), .d (.raw (.string ⟨#[]⟩)), .d (.raw (.int .i64 0))]
set_option maxRecDepth 100000 in
set_option maxHeartbeats 8000000 in
theorem r20next_c (s : ByteArray) (i : Nat) (hs : s.size ≤ 65536) (hi : i < s.size) : Con Tryz.prog 63 [.d (.raw (.string s)), .d (.raw (.int .i64 i))]
  (.agg [.d (.raw (.int .i64 (nextL (s.data.toList.drop i)).1)), .d (.raw (.string (s.extract i (i + (nextL (s.data.toList.drop i)).2)))), .d (.raw (.int .i64 i))]) := by
 have hsl : s.data.toList.length = s.size := rfl
 have hL : nextL (s.data.toList.drop i) = if letterB (s.data.toList.getD i 0) then (if hasSlash ((s.data.toList.drop i).take (runL innerB (s.data.toList.drop i))) then 2 else 1, runL innerB (s.data.toList.drop i))
   else if digitB (s.data.toList.getD i 0) || (((s.data.toList.getD i 0).toNat == 45) && decide (1 < s.size - i) && digitB (s.data.toList.getD (i + 1) 0)) then (3, 1 + runL innerB (s.data.toList.drop (i + 1))) else (4, signL (s.data.toList.drop i)) := by
  unfold nextL
  rw [List.tail_drop, head_drop, head_drop, List.length_drop, hsl]
 generalize nextL (s.data.toList.drop i) = R at hL ⊢
 have cl : Con Tryz.prog 118 [.d (.raw (.int .u8 ((s.data.toList.getD i 0).toNat : Nat)))] (.d (.raw (.bool (letterB (s.data.toList.getD i 0))))) := con_b ⟨_, Tryz.func118, by decide +kernel, rfl⟩ fun w => rletter_any _ w
 have cd : ∀ b : UInt8, Con Tryz.prog 121 [.d (.raw (.int .u8 (b.toNat : Nat)))] (.d (.raw (.bool (digitB b)))) := fun b => con_b ⟨_, Tryz.func121, by decide +kernel, rfl⟩ fun w => rdigit_any _ w
 have cr := fun (j : Nat) (hj : j ≤ s.size) => con_si ⟨_, Tryz.func119, by decide +kernel, rfl⟩ fun w => rrun_any s j w (by unfold maxLen; omega) hj
 have hr := runL_le innerB (s.data.toList.drop i)
 have hr1 := runL_le innerB (s.data.toList.drop (i + 1))
 rw [List.length_drop, hsl] at hr hr1
 refine con_of Tryz.func63 rfl (by decide +kernel) rfl rfl (by simp [Tryz.ntmps63]) fun A hA => ?_
 rw [Tryz.ntmps63] at hA
 refine goMid 300 [0, 1, 4] [0] [] (fun σ => σ = (⟨[(0, .d (.raw (.string s))), (1, .d (.raw (.int .i64 i))), (4, .box 0 0)], [(0, some tkZ)], []⟩ : St)) (by simp only [go_sem, hA]) ?_
 rintro σ rfl
 refine goMid 400 [0, 1, 4] [0] [] (fun σ => letterB (s.data.toList.getD i 0) = false ∧ σ = (⟨[(0, .d (.raw (.string s))), (1, .d (.raw (.int .i64 i))), (4, .box 0 0)], [(0, some tkZ)], []⟩ : St)) ?_ ?_
 ·simp only [go_sem, hA, Int.toNat_natCast]
  refine ⟨⟨by omega, by omega⟩, ?_⟩
  refine goCall 400 cl rfl (by simp only [go_sem]) (by simp only [go_sem, hA]) ?_
  cases hb : letterB (s.data.toList.getD i 0) with
  | false => simp only [go_sem, true_and]
  | true =>
  rw [hb, if_pos rfl] at hL
  have c1 := cr i (by omega)
  generalize hm : runL innerB (s.data.toList.drop i) = m at c1 hL hr ⊢
  have hT : (s.extract i (i + m)).data.toList = (s.data.toList.drop i).take m := by rw [extract_list, Nat.add_sub_cancel_left]
  have hz : (s.extract i (i + m)).size = m := by simp; omega
  have cs : Con Tryz.prog 120 [.d (.raw (.string (s.extract i (i + m))))] (.d (.raw (.int .i64 (runL noSlashB (s.extract i (i + m)).data.toList)))) := con_s1 ⟨_, Tryz.func120, by decide +kernel, rfl⟩ fun w => (rslash_any _ w (by unfold maxLen; omega)).mono fun e w' h => ⟨h.1, h.2 ▸ Below.refl _ _⟩
  have hS := hasSlash_run (s.extract i (i + m)).data.toList
  rw [show (s.extract i (i + m)).data.toList.length = m from hz] at hS
  rw [← hT] at hL
  generalize runL noSlashB (s.extract i (i + m)).data.toList = q at cs hS
  simp only [go_sem, hA]
  refine goCall 400 c1 rfl (by simp only [go_sem]) (by simp only [go_sem, hA]) ?_
  simp only [go_sem, hA, Int.toNat_natCast]
  refine ⟨⟨by omega, by omega, by omega⟩, ?_⟩
  refine goCallD 400 cs rfl (by simp only [go_sem]) (by simp only [go_sem, hA]) ?_
  cases hq : decide (q < m) with
  | true =>
   have k1 : decide ((q : Int) < (m : Int)) = true := decide_eq_true (by have := of_decide_eq_true hq; omega)
   rw [hS, hq, if_pos rfl] at hL
   simp only [go_sem, hA, hz, k1, hL, Tryz.results63]
   show chk _ _ _ = true
   kernel_rfl
  | false =>
   have k1 : decide ((q : Int) < (m : Int)) = false := decide_eq_false (by have := of_decide_eq_false hq; omega)
   rw [hS, hq, if_neg (by decide)] at hL
   simp only [go_sem, hA, hz, k1, hL, Tryz.results63]
   show chk _ _ _ = true
   kernel_rfl
 rintro σ ⟨hb, rfl⟩
 rw [hb, if_neg (by decide)] at hL
 refine goMid 400 [0, 1, 4] [0] [] (fun σ => R = (4, signL (s.data.toList.drop i)) ∧ σ = (⟨[(0, .d (.raw (.string s))), (1, .d (.raw (.int .i64 i))), (4, .box 0 0)], [(0, some tkZ)], []⟩ : St)) ?_ ?_
 ·simp only [go_sem, hA, Int.toNat_natCast]
  refine ⟨⟨by omega, by omega⟩, ?_⟩
  refine goCall 400 (cd (s.data.toList.getD i 0)) rfl (by simp only [go_sem]) (by simp only [go_sem, hA]) ?_
  cases hd : digitB (s.data.toList.getD i 0) with
  | true =>
   rw [hd, Bool.true_or, if_pos rfl] at hL
   have c1 := cr (i + 1) (by omega)
   rw [Nat.add_assoc] at c1
   simp only [go_sem, hA, undef]
   refine ⟨by unfold inI64; omega, ?_⟩
   refine goCall 400 c1 rfl (by simp only [go_sem]; rfl) (by simp only [go_sem, hA]) ?_
   simp only [go_sem, hA, Int.toNat_natCast, hL, Tryz.results63]
   exact ⟨by omega, by omega, by omega⟩
  | false =>
  rw [hd, Bool.false_or] at hL
  cases h45 : (s.data.toList.getD i 0).toNat == 45 with
  | false =>
   have k1 : decide (((s.data.toList.getD i 0).toNat : Int) = 45) = false := decide_eq_false (by have := ne_of_beq_false h45; omega)
   rw [h45, Bool.false_and, Bool.false_and, if_neg (by decide)] at hL
   simp only [go_sem, hA, Int.toNat_natCast, k1, undef]
   exact ⟨⟨by omega, by omega⟩, hL⟩
  | true =>
  have k1 : decide (((s.data.toList.getD i 0).toNat : Int) = 45) = true := decide_eq_true (by have := eq_of_beq h45; omega)
  rw [h45, Bool.true_and] at hL
  by_cases hlt : i + 1 < s.size
  ·have k2 : decide ((i : Int) + 1 < (s.size : Int)) = true := decide_eq_true (by omega)
   rw [decide_eq_true (show 1 < s.size - i by omega), Bool.true_and] at hL
   have hj : ((i : Int) + 1).toNat = i + 1 := by omega
   simp only [go_sem, hA, Int.toNat_natCast, k1, k2, hj]
   refine ⟨⟨by omega, by omega⟩, by unfold inI64; omega, by unfold inI64; omega, ⟨by omega, by omega⟩, ?_⟩
   refine goCall 400 (cd (s.data.toList.getD (i + 1) 0)) rfl (by simp only [go_sem]) (by simp only [go_sem, hA]) ?_
   cases hd1 : digitB (s.data.toList.getD (i + 1) 0) with
   | false =>
    rw [hd1, if_neg (by decide)] at hL
    simp only [go_sem, hA]
    exact hL
   | true =>
    rw [hd1, if_pos rfl] at hL
    have c1 := cr (i + 1) (by omega)
    rw [Nat.add_assoc] at c1
    simp only [go_sem, hA]
    refine ⟨by unfold inI64; omega, ?_⟩
    refine goCall 400 c1 rfl (by simp only [go_sem]; rfl) (by simp only [go_sem, hA]) ?_
    simp only [go_sem, hA, Int.toNat_natCast, hL, Tryz.results63]
    exact ⟨by omega, by omega, by omega⟩
  ·have k2 : decide ((i : Int) + 1 < (s.size : Int)) = false := decide_eq_false (by omega)
   rw [decide_eq_false (show ¬ 1 < s.size - i by omega), Bool.false_and, if_neg (by decide)] at hL
   simp only [go_sem, hA, Int.toNat_natCast, k1, k2, undef]
   exact ⟨⟨by omega, by omega⟩, by unfold inI64; omega, hL⟩
 rintro σ ⟨rfl, rfl⟩
 refine goC 400 ?_
 simp only [go_sem, hA, Int.toNat_natCast]
 refine ⟨⟨by omega, by omega, by omega⟩, ?_⟩
 have cg : Con Tryz.prog 122 [.d (.raw (.string (s.extract i s.size)))] (.d (.raw (.string (s.extract i (i + signL (s.data.toList.drop i)))))) := con_s1 ⟨_, Tryz.func122, by decide +kernel, rfl⟩ fun w => by
  have h1 := rsign_any (s.extract i s.size) w
  rw [extract_end, extract_extract0' s i _ (by have := signL_le (s.data.toList.drop i); rw [List.length_drop, hsl] at this; omega)] at h1
  exact h1
 refine goCall 400 cg rfl (by simp only [go_sem]) (by simp only [go_sem, hA]) ?_
 simp only [go_sem, hA, Tryz.results63]
end
section
open Go Go.RowKit
theorem checkL_nonneg {k p : Int} {l : List UInt8} (h : 0 ≤ p) : checkL k l p = checkL k l 0 := by
 unfold checkL
 rw [if_neg (show ¬ p < 0 by omega), if_neg (show ¬ (0 : Int) < 0 by omega)]
abbrev rcSt (s : ByteArray) (k : Nat) (ts : List LTok) : St := ⟨[(0, .d (.raw (.string s))), (5, .grow 99 (encTs ts)), (6, .d (.raw (.int .i64 k)))], [], [(99, some ⟨3, 43, ts.length, none⟩)]⟩
theorem byte_at (s : ByteArray) (k : Nat) (h : k < s.size) : s.data.toList.drop k = s.data.toList.getD k 0 :: s.data.toList.drop (k + 1) := by
 have hl : k < s.data.toList.length := h
 rw [List.drop_eq_getElem_cons hl, List.getD_eq_getElem?_getD, List.getElem?_eq_getElem hl]; rfl
set_option maxRecDepth 100000 in
set_option maxHeartbeats 8000000 in
theorem rscan_c (s : ByteArray) : Con Tryz.prog 31 [.d (.raw (.string s))] (.tup [.d (.sl (encTs (scanX s).1)), .d (.raw (.int .i64 (scanX s).2.1)), .d (.raw (.int .i64 (scanX s).2.2))]) := by
 refine con_of Tryz.func31 rfl (by decide +kernel) rfl rfl (by simp [Tryz.ntmps31]) fun A hA => ?_
 rw [Tryz.ntmps31] at hA
 refine goC 300 ?_
 by_cases hb : 65536 < s.size
 ·have g0 : decide ((65536 : Int) < (s.size : Int)) = true := decide_eq_true (by omega)
  have hx : scanX s = ([], 0, 4) := if_pos hb
  simp only [go_sem, hA, g0, hx, Tryz.results31]
  rfl
 have g0 : decide ((65536 : Int) < (s.size : Int)) = false := decide_eq_false (by omega)
 have hsl : s.data.toList.length = s.size := rfl
 have hk0 := skipL_le s.data.toList
 simp only [go_sem, hA, g0]
 refine satC_growTmp 99 5 3 43 (by rfl) (by rfl) ?_
 refine satC_loop [0, 5, 6] [] [99] (fun y σ => ∃ k p f acc, k ≤ s.size ∧ p = k + skipL (s.data.toList.drop k) ∧ s.size < p + f ∧ acc.length ≤ k ∧ scanT f (s.data.toList.drop p) p acc = scanAll s.data.toList ∧ y = s.size - k ∧ σ = rcSt s k acc) s.size ⟨0, skipL s.data.toList, s.size + 1, [], by omega, by simp, by omega, Nat.le_refl _, rfl, by omega, by simp only [go_sem]; rfl⟩ ?_
 rintro y σ ⟨k, p, f, acc, hk, hp, hf, hacc, hS, rfl, rfl⟩
 refine goC 300 ?_
 by_cases hlt : k < s.size
 case neg =>
  obtain rfl : k = s.size := by omega
  have k1 : decide ((s.size : Int) < (s.size : Int)) = false := decide_eq_false (by omega)
  have hr : scanAll s.data.toList = (acc, none) := by rw [← hS]; exact scanT_end (by simp; omega)
  have hx : scanX s = (acc, 0, 0) := by unfold scanX; rw [if_neg hb, hr]
  simp only [go_sem, hA, rcSt, k1, hx, Tryz.results31]
 have k1 : decide ((k : Int) < (s.size : Int)) = true := decide_eq_true (by omega)
 have hd := byte_at s k hlt
 obtain ⟨b, hbe⟩ : ∃ b, s.data.toList.getD k 0 = b := ⟨_, rfl⟩
 rw [hbe] at hd
 by_cases h32 : (b.toNat : Int) = 32
 ·have d1 : decide ((b.toNat : Int) = 32) = true := decide_eq_true h32
  rw [hd, skipL_blank (.inl (by simpa using h32))] at hp
  simp only [go_sem, hA, rcSt, k1, Int.toNat_natCast, hbe, d1, undef]
  exact ⟨⟨by omega, by omega⟩, by unfold inI64; omega, s.size - (k + 1), by omega, k + 1, p, f, acc, by omega, by omega, hf, by omega, hS, rfl, rfl⟩
 have d1 : decide ((b.toNat : Int) = 32) = false := decide_eq_false h32
 by_cases h10 : (b.toNat : Int) = 10
 ·have d2 : decide ((b.toNat : Int) = 10) = true := decide_eq_true h10
  rw [hd, skipL_blank (.inr (by simpa using h10))] at hp
  simp only [go_sem, hA, rcSt, k1, Int.toNat_natCast, hbe, d1, d2]
  exact ⟨⟨by omega, by omega⟩, ⟨by omega, by omega⟩, by unfold inI64; omega, s.size - (k + 1), by omega, k + 1, p, f, acc, by omega, by omega, hf, by omega, hS, rfl, rfl⟩
 have d2 : decide ((b.toNat : Int) = 10) = false := decide_eq_false h10
 by_cases h35 : (b.toNat : Int) = 35
 ·have d3 : decide ((b.toNat : Int) = 35) = true := decide_eq_true h35
  simp only [go_sem, hA, rcSt, k1, Int.toNat_natCast, hbe, d1, d2, d3]
  refine ⟨⟨by omega, by omega⟩, ⟨by omega, by omega⟩, ⟨by omega, by omega⟩, ?_⟩
  have hq : k + skipGo true (s.data.toList.drop k) = p := by
   rw [hp, hd]
   unfold skipL
   rw [skipGo, skipGo, if_neg (by simpa using h10), if_neg (by simp [h32, h10]), if_pos (by simpa using h35)]
  refine satC_loop [0, 5, 6] [] [99] (fun y σ => ∃ j, k ≤ j ∧ j ≤ s.size ∧ j + skipGo true (s.data.toList.drop j) = p ∧ y = s.size - j ∧ σ = rcSt s j acc) (s.size - k) ⟨k, by omega, by omega, hq, rfl, by simp only [go_sem]⟩ ?_
  rintro y σ ⟨j, hkj, hjs, hj, rfl, rfl⟩
  have fin : k < j → j + skipL (s.data.toList.drop j) = p → ∃ n', n' < s.size - k ∧ ∃ k p f acc_1, k ≤ s.size ∧ p = k + skipL (s.data.toList.drop k) ∧ s.size < p + f ∧ acc_1.length ≤ k ∧ scanT f (s.data.toList.drop p) p acc_1 = scanAll s.data.toList ∧ n' = s.size - k ∧ rcSt s j acc = rcSt s k acc_1 := fun h1 h2 => ⟨s.size - j, by omega, j, p, f, acc, hjs, h2.symm, hf, by omega, hS, rfl, rfl⟩
  refine goC 300 ?_
  by_cases hlj : j < s.size
  ·have hdj := byte_at s j hlj
   have g1 : decide ((j : Int) < (s.size : Int)) = true := decide_eq_true (by omega)
   obtain ⟨b', hbe'⟩ : ∃ b', s.data.toList.getD j 0 = b' := ⟨_, rfl⟩
   rw [hbe'] at hdj
   rw [hdj] at hj
   by_cases e10 : (b'.toNat : Int) = 10
   ·have g2 : (decide ¬(b'.toNat : Int) = 10) = false := decide_eq_false (by simpa using e10)
    rw [skipGo, if_pos (by simpa using e10)] at hj
    have hne : k ≠ j := by
     rintro rfl
     rw [hbe] at hbe'
     subst hbe'
     exact h10 e10
    simp only [go_sem, hA, rcSt, g1, Int.toNat_natCast, hbe', g2]
    exact ⟨⟨by omega, by omega⟩, fin (by omega) (by rw [hdj, skipL_blank (.inr (by simpa using e10))]; exact hj)⟩
   ·have g2 : (decide ¬(b'.toNat : Int) = 10) = true := decide_eq_true e10
    rw [skipGo, if_neg (by simpa using e10)] at hj
    simp only [go_sem, hA, rcSt, g1, Int.toNat_natCast, hbe', g2]
    exact ⟨⟨by omega, by omega⟩, by unfold inI64; omega, s.size - (j + 1), by omega, j + 1, by omega, by omega, by omega, rfl, rfl⟩
  ·obtain rfl : j = s.size := by omega
   have g1 : decide ((s.size : Int) < (s.size : Int)) = false := decide_eq_false (by omega)
   have hnil : s.data.toList.drop s.size = [] := List.drop_eq_nil_of_le (by rw [hsl]; omega)
   rw [hnil] at hj
   simp only [go_sem, hA, rcSt, g1, undef]
   exact fin hlt (by rw [hnil]; exact hj)
 have d3 : decide ((b.toNat : Int) = 35) = false := decide_eq_false h35
 rw [hd, skipL_stop (by simpa using h32) (by simpa using h10) (by simpa using h35), Nat.add_zero] at hp
 subst hp
 obtain ⟨g, rfl⟩ : ∃ g, f = g + 1 := ⟨f - 1, by omega⟩
 have hrl : (s.data.toList.drop p).length = s.size - p := by rw [List.length_drop, hsl]
 have cn := r20next_c s p (by omega) hlt
 obtain ⟨n, hn⟩ : ∃ n, (nextL (s.data.toList.drop p)).2 = n := ⟨_, rfl⟩
 obtain ⟨kd, hkd⟩ : ∃ kd, (nextL (s.data.toList.drop p)).1 = kd := ⟨_, rfl⟩
 have hnle : n ≤ s.size - p := by rw [← hn, ← hrl]; exact nextL_le _ (by omega)
 have hzs : (s.extract p (p + n)).size = n := by simp; omega
 have hxl : (s.extract p (p + n)).data.toList = (s.data.toList.drop p).take n := by rw [extract_list, Nat.add_sub_cancel_left]
 have ck := rcheck_c kd p (s.extract p (p + n))
 have hok : okNext (s.data.toList.drop p) = (checkL kd ((s.data.toList.drop p).take n) 0 == 0) := by unfold okNext; rw [hn, hkd]
 rw [checkL_nonneg (by omega), hxl] at ck
 rw [hn, hkd] at cn
 generalize checkL kd ((s.data.toList.drop p).take n) 0 = C at ck hok
 simp only [go_sem, hA, rcSt, k1, Int.toNat_natCast, hbe, d1, d2, d3]
 refine ⟨⟨by omega, by omega⟩, ⟨by omega, by omega⟩, ⟨by omega, by omega⟩, ?_⟩
 refine goCall 300 cn rfl (by simp only [go_sem]) (by simp only [go_sem, hA]) ?_
 simp only [go_sem, hA]
 refine goCall 300 ck rfl (by simp only [go_sem]) (by simp only [go_sem, hA]) ?_
 by_cases hC : C = 0
 ·have e0 : (decide ¬C = 0) = false := decide_eq_false (by simpa using hC)
  have ho : okNext (s.data.toList.drop p) = true := by rw [hok, hC]; rfl
  have hn0 : 0 < n := by rw [← hn]; exact okNext_pos ho
  have hadv : advL (s.data.toList.drop p) = n + skipL (s.data.toList.drop (p + n)) := by unfold advL; rw [hn, List.drop_drop]
  have htok : tokL (s.data.toList.drop p) p = ⟨kd, (s.data.toList.drop p).take n, p⟩ := by unfold tokL; rw [hkd, hn]
  rw [scanT_step (f := g) (p := p) (acc := acc) (by omega) ho, hadv, htok, List.drop_drop, ← Nat.add_assoc] at hS
  have htx : (⟨((s.data.toList.drop p).take n).toArray⟩ : ByteArray) = s.extract p (p + n) := by
   apply ba_inj'
   rw [hxl]
  have hfit : rowsFit 3 [[D.raw (.int .i64 kd), .raw (.string (s.extract p (p + n))), .raw (.int .i64 p)]] := by
   have := encTs_fit [⟨kd, (s.data.toList.drop p).take n, p⟩]
   simpa only [encTs, encT, List.map_cons, List.map_nil, htx] using this
  have he : encTs (acc ++ [⟨kd, (s.data.toList.drop p).take n, p⟩]) = encTs acc ++ [[.raw (.int .i64 kd), .raw (.string (s.extract p (p + n))), .raw (.int .i64 p)]] := by
   simp [encTs, encT, htx]
  simp only [go_sem, hA, e0, encTs_length, hzs]
  refine ⟨⟨hfit, encTs_row _, by omega⟩, by unfold inI64; omega, s.size - (p + n), by omega, p + n, p + n + skipL (s.data.toList.drop (p + n)), g, acc ++ [⟨kd, (s.data.toList.drop p).take n, p⟩], by omega, rfl, by omega, by simp; omega, hS, rfl, ?_⟩
  rw [he]
  simp only [List.length_append, List.length_singleton]
  rfl
 ·have e0 : (decide ¬C = 0) = true := decide_eq_true hC
  have ho : okNext (s.data.toList.drop p) = false := by rw [hok]; simpa using hC
  have hr : scanAll s.data.toList = ([], some p) := by rw [← hS]; exact scanT_err (by omega) ho
  have hx : scanX s = ([], (p : Int), 3) := by unfold scanX; rw [if_neg hb, hr]
  simp only [go_sem, hA, e0, hx, Tryz.results31]
  rfl
end
end
end Go.Proofs.YtnnolijagpakiaaGreatDoor
