/- Texts of this proof, part 28: what the proof uses of them. -/
import Derived.Test.YtnnolijagpakiaaGreatDoorVba
import Derived.Test.YtnnolijagpakiaaGreatDoorVaz
namespace Go.Proofs.YtnnolijagpakiaaGreatDoor
section
open Go Go.RowKit
theorem checkN_ne10 (k : Int) (nm mr : ByteArray) (it d : Int) (len : Nat) : checkN k nm mr it d len ≠ 10 := by
 unfold checkN namesErr rangeErr
 repeat' split
 all_goals decide
mutual
theorem checkE_ne10 : ∀ t : Ex, checkE t ≠ 10
 | .mk k n m i d s => by
  rw [checkE]
  split
  ·exact checkEs_ne10 s
  ·exact checkN_ne10 _ _ _ _ _ _
theorem checkEs_ne10 : ∀ l : List Ex, checkEs l ≠ 10
 | [] => by rw [checkEs]; decide
 | e :: es => by
  rw [checkEs]
  split
  ·exact checkEs_ne10 es
  ·exact checkE_ne10 e
end
theorem sdeclX_ne (d : Dc) : sdeclX d ≠ 10 := by
 have h1 : checkX d.body ≠ 10 := by
  unfold checkX
  split
  ·decide
  ·exact checkE_ne10 _
 have h2 : namesX d.names ≠ 10 := by
  unfold namesX
  repeat' split
  all_goals decide
 unfold sdeclX
 repeat' split
 all_goals first | exact h1 | exact h2 | decide
theorem firstN_val {f : Nat → Int} : ∀ n, firstN f n ≠ 0 → ∃ q, q < n ∧ f q = firstN f n
 | 0, h => absurd rfl h
 | n + 1, h => by
  rw [firstN] at h ⊢
  split at h
  ·rename_i h0
   rw [if_pos h0]
   exact ⟨n, by omega, rfl⟩
  ·rename_i h0
   rw [if_neg h0]
   obtain ⟨q, h1, h2⟩ := firstN_val n h0
   exact ⟨q, by omega, h2⟩
theorem firstN_none {f : Nat → Int} : ∀ n, (∀ i, i < n → f i = 0) → firstN f n = 0
 | 0, _ => rfl
 | n + 1, h => firstN_step (firstN_none n fun i hi => h i (by omega)) (h n (by omega))
theorem order_same {x : Sr} (h : srcX sdeclX x = 10) : if usesX x.uses = 0 then 0 ≤ unordX x ∧ unordX x = placeX x.decls else unordX x < 0 := by
 rw [srcX_uses] at h
 split
 ·rename_i hu
  rw [if_neg (by simp [hu])] at h
  have hz : ∀ i, i < x.uses.length → useE x.uses i = 0 := by
   unfold usesX at hu
   split at hu
   ·cases hu
   ·exact firstN_zero hu
  have hb : firstN (usesBad x.uses) x.uses.length = 0 := firstN_none _ fun i hi => by
   have h1 := hz i hi
   unfold useE at h1
   unfold usesBad
   split at h1
   ·split at h1
    ·cases h1
    ·rename_i h2; rw [if_neg h2]
   ·cases h1
  split at h
  ·cases h
  obtain ⟨q, h1, h2⟩ := firstN_val _ (by rw [h]; decide)
  rw [h] at h2
  have hm : misplaced x.decls q = true := by
   unfold declE at h2
   split at h2
   ·exact absurd h2 (sdeclX_ne _)
   ·split at h2
    ·assumption
    ·split at h2 <;> cases h2
  have hp : placeX x.decls ≠ 0 := fun h0 => by
   have := firstN_zero h0 q h1
   simp only [hm, if_true] at this
   unfold misplaced at hm
   simp only [Bool.and_eq_true, decide_eq_true_eq] at hm
   omega
  have hU : unordX x = placeX x.decls := by unfold unordX; rw [if_neg (by simp [hb]), if_neg hp]
  refine ⟨?_, hU⟩
  obtain ⟨q2, _, h4⟩ := firstN_val _ hp
  rw [hU]
  show 0 ≤ firstN _ _
  rw [← h4]
  split <;> omega
 ·rename_i hu
  rw [if_pos hu] at h
  unfold usesX at h
  split at h
  ·cases h
  obtain ⟨q, h1, h2⟩ := firstN_val _ (by rw [h]; decide)
  rw [h] at h2
  have hb : firstN (usesBad x.uses) x.uses.length ≠ 0 := fun h0 => by
   have h3 := firstN_zero h0 q h1
   unfold useE at h2
   unfold usesBad at h3
   split at h2
   ·split at h2
    ·rename_i h4; rw [if_pos h4] at h3; cases h3
    ·cases h2
   ·cases h2
  unfold unordX
  rw [if_pos hb]
  decide
abbrev rpSt (l : List Dc) (q : Nat) : St := ⟨[(0, .d (.sl (encDs l))), (3, .d (.raw (.int .i64 q)))], [], []⟩
set_option maxRecDepth 100000 in
set_option maxHeartbeats 16000000 in
theorem rplace_c (l : List Dc) (hd : l.length ≤ 1048576) : Con Tryz.prog 35 [.d (.sl (encDs l))] (.d (.raw (.int .i64 (placeX l)))) := by
 refine con_of Tryz.func35 rfl (by decide +kernel) rfl rfl (by simp [Tryz.ntmps35]) fun A hA => ?_
 rw [Tryz.ntmps35] at hA
 refine goC 400 ?_
 simp only [go_sem, hA]
 refine satC_loop [0, 3] [] [] (fun y σ => ∃ q : Nat, 1 ≤ q ∧ (q ≤ l.length ∨ q = 1) ∧ y = l.length + 1 - q ∧ firstN (plF l) q = 0 ∧ σ = rpSt l q) l.length ⟨1, by omega, .inr rfl, by omega, by unfold firstN plF misplaced; rfl, rfl⟩ ?_
 rintro y σ ⟨q, hq1, hq, rfl, hf, rfl⟩
 refine goC 400 ?_
 by_cases hlt : q < l.length
 case neg =>
  have k1 : decide ((q : Int) < (l.length : Int)) = false := decide_eq_false (by omega)
  have hz : placeX l = 0 := by
   show firstN (plF l) l.length = 0
   rcases hq with hq | hq
   ·obtain rfl : q = l.length := by omega
    exact hf
   ·subst hq
    rcases Nat.lt_or_ge l.length 1 with h | h
    ·rw [show l.length = 0 by omega]; rfl
    ·rw [show l.length = 1 by omega]; exact hf
  simp only [go_sem, hA, encDs_length, k1, hz, Tryz.results35]
 have k1 : decide ((q : Int) < (l.length : Int)) = true := decide_eq_true (by omega)
 have hq2 : ((q : Int) - 1).toNat = q - 1 := by omega
 have hat := atD_get l q hlt
 have hat1 := atD_get l (q - 1) (by omega)
 have hin : inI64 ((q : Int) - 1) := by unfold inI64; omega
 have hm : misplaced l q = (decide (¬ l[q].id = 0) && (decide (l[q - 1].id = 0) || decide (l[q].id ≤ l[q - 1].id))) := by
  unfold misplaced; rw [hat, hat1, decide_eq_true (show 0 < q by omega), Bool.true_and]
 have hgo : misplaced l q = false → firstN (plF l) (q + 1) = 0 := fun h => firstN_step hf (by unfold plF; rw [h]; rfl)
 have hd1 := encDs_at l q hlt
 have hd2 := encDs_at l (q - 1) (by omega)
 by_cases h1 : l[q].id = 0
 ·have g1 : (decide ¬ l[q].id = 0) = false := decide_eq_false (by simpa using h1)
  have hz := hgo (by rw [hm, g1]; rfl)
  simp only [go_sem, hA, encDs_length, k1, Int.toNat_natCast, hd1, encD, g1, undef, mixed]
  exact ⟨⟨by omega, by omega⟩, by show chk _ _ _ = true; kernel_rfl, by unfold inI64; omega, l.length + 1 - (q + 1), by omega, q + 1, by omega, .inl (by omega), rfl, hz, rfl⟩
 have g1 : (decide ¬ l[q].id = 0) = true := decide_eq_true h1
 by_cases h2 : l[q - 1].id = 0
 ·have g2 : decide (l[q - 1].id = 0) = true := decide_eq_true h2
  have hr := (plF_hit hf hlt (by rw [hm, g1, g2]; rfl)).1
  simp only [go_sem, hA, encDs_length, k1, hq2, Int.toNat_natCast, hd1, hd2, encD, g1, g2, undef, hr, mixed, Tryz.results35]
  exact ⟨⟨by omega, by omega⟩, hin, ⟨by omega, by omega⟩, by show chk _ _ _ = true; kernel_rfl⟩
 have g2 : decide (l[q - 1].id = 0) = false := decide_eq_false h2
 cases h3 : decide (l[q].id ≤ l[q - 1].id) with
 | true =>
  have hr := (plF_hit hf hlt (by rw [hm, g1, g2, h3]; rfl)).1
  simp only [go_sem, hA, encDs_length, k1, hq2, Int.toNat_natCast, hd1, hd2, encD, g1, g2, h3, hr, mixed, Tryz.results35]
  exact ⟨⟨by omega, by omega⟩, hin, ⟨by omega, by omega⟩, hin, ⟨by omega, by omega⟩, ⟨by omega, by omega⟩, by show chk _ _ _ = true; kernel_rfl⟩
 | false =>
  have hz := hgo (by rw [hm, g1, g2, h3]; rfl)
  simp only [go_sem, hA, encDs_length, k1, hq2, Int.toNat_natCast, hd1, hd2, encD, g1, g2, h3, mixed]
  exact ⟨⟨by omega, by omega⟩, hin, ⟨by omega, by omega⟩, hin, ⟨by omega, by omega⟩, ⟨by omega, by omega⟩, by show chk _ _ _ = true; kernel_rfl, by unfold inI64; omega, l.length + 1 - (q + 1), by omega, q + 1, by omega, .inl (by omega), rfl, hz, rfl⟩
set_option maxRecDepth 100000 in
set_option maxHeartbeats 16000000 in
theorem rparse_c (s : ByteArray) : Con Tryz.prog 13 [.d (.raw (.string s))] (.tup [avS (parseP s).1, .d (.raw (.int .i64 (parseP s).2.1)), .d (.raw (.int .i64 (parseP s).2.2))]) := by
 obtain ⟨b1, b2, b3, b4, b5, b6⟩ := scan_bound s
 have csc := rscan_c s
 have hP : parseP s = if ¬ (scanX s).2.2 = 0 then (sr0, (scanX s).2.1, (scanX s).2.2) else
   match pSrc ((scanX s).1.length + 1) ((scanX s).1.map kt) with
   | (none, r) => (sr0, if r.length = 0 then (s.size : Int) else posT (scanX s).1 ((scanX s).1.length - r.length), 3)
   | (some x, _) => if srcX sdeclX x.1 = 0 then (x.1, 0, 0) else if srcX sdeclX x.1 = 10 ∧ 0 ≤ unordX x.1 then (sr0, posT (scanX s).1 ((scanX s).1.length - x.2.getD (unordX x.1).toNat 0), 10) else (sr0, 0, srcX sdeclX x.1) := rfl
 generalize parseP s = R at hP ⊢
 obtain ⟨t, p, c, hx⟩ : ∃ t p c, scanX s = (t, p, c) := ⟨_, _, _, rfl⟩
 rw [hx] at b1 b2 b3 b4 b5 b6 csc hP
 simp only at b1 b2 b3 b4 b5 b6 csc hP
 refine con_of Tryz.func13 rfl (by decide +kernel) rfl rfl (by simp [Tryz.ntmps13]) fun A hA => ?_
 rw [Tryz.ntmps13] at hA
 refine goC 400 ?_
 simp only [go_sem, hA]
 refine goCall 400 csc rfl (by simp only [go_sem]) (by simp only [go_sem, hA]) ?_
 by_cases hc : c = 0
 case neg =>
  have g0 : (decide ¬c = 0) = true := decide_eq_true hc
  rw [if_pos hc] at hP
  simp only [go_sem, hA, g0, hP, avS0, Tryz.results13]
 subst hc
 have ht : t.length ≤ 524288 := by omega
 obtain ⟨cs, _⟩ := csource (sit0 t (by omega))
 have hrl := rl_src (t.length + 1) (t.map kt)
 rw [avX0] at cs
 generalize cSrc (t.length + 1) (t.map kt, false) = y at cs hrl
 obtain ⟨⟨x, ps⟩, d⟩ := y
 rw [if_neg (by simp)] at hP
 simp only [go_sem, hA]
 refine goCall 400 cs rfl (by simp only [go_sem]) (by simp only [go_sem, hA]) ?_
 cases hp : pSrc (t.length + 1) (t.map kt) with
 | mk a r =>
  rw [hp] at hrl hP
  cases a with
  | none =>
   have hd : d = (r, true) := hrl
   subst hd
   simp only at hP
   by_cases h0 : r.length = 0
   ·have g1 : decide (((t.length - r.length : Nat) : Int) < (t.length : Int)) = false := decide_eq_false (by omega)
    rw [if_pos h0] at hP
    simp only [go_sem, hA, encTs_length, g1, hP, avS, Tryz.results13]
    rfl
   ·have g1 : decide (((t.length - r.length : Nat) : Int) < (t.length : Int)) = true := by
     have hr : r.length ≤ t.length := by
      have h1 := pSrc_le (t.length + 1) (t.map kt)
      rw [hp, List.length_map] at h1
      exact h1
     exact decide_eq_true (by omega)
    rw [if_neg h0] at hP
    have hlt : t.length - r.length < t.length := by have := of_decide_eq_true g1; omega
    have hat := encTs_at t (t.length - r.length) hlt
    have hpos : posT t (t.length - r.length) = t[t.length - r.length].pos := by unfold posT; rw [List.getD_eq_getElem?_getD, List.getElem?_eq_getElem hlt]; rfl
    rw [hpos] at hP
    simp only [go_sem, hA, encTs_length, g1, hP, avS, Int.toNat_natCast, hat, encT, mixed, Tryz.results13]
    exact ⟨⟨by omega, by omega⟩, by show chk _ _ _ = true; kernel_rfl, rfl⟩
  | some e2 =>
   have hd : ((x, ps), d) = (e2, (r, false)) := hrl
   injection hd with hd1 hd2
   subst hd1 hd2
   have hfew := src_few hp
   obtain ⟨hpl, hpa⟩ := src_at hp
   obtain ⟨hl1, hl2⟩ := src_lens hp
   rw [List.length_map] at hfew hpa hl1 hl2
   simp only at hP
   simp only [go_sem, hA, avS, undef]
   refine goCall 400 (rsource_c x (fun d hd => Nat.le_trans (hfew d hd) ht)) rfl (by simp only [go_sem, avS]) (by simp only [go_sem, hA]) ?_
   rw [srcX_eq]
   by_cases h10 : srcX sdeclX x = 10
   ·have g1 : decide (srcX sdeclX x = 10) = true := decide_eq_true h10
    have h0 : ¬ srcX sdeclX x = 0 := by rw [h10]; decide
    have g0 : (decide ¬srcX sdeclX x = 0) = true := decide_eq_true h0
    have ho := order_same h10
    rw [if_neg h0] at hP
    simp only [go_sem, hA, g1]
    refine goCall 400 (rUses_c x.uses) rfl (by simp only [go_sem]) (by simp only [go_sem, hA]) ?_
    by_cases hu : usesX x.uses = 0
    ·rw [if_pos hu] at ho
     obtain ⟨hi, hU⟩ := ho
     have k1 : decide (usesX x.uses = 0) = true := decide_eq_true hu
     have hlt0 := (unord_lt x).2 hi
     rw [if_pos ⟨h10, hi⟩] at hP
     have cpl := rplace_c x.decls (by omega)
     rw [← hU] at cpl
     obtain ⟨i, hi2⟩ : ∃ i : Nat, unordX x = i := ⟨(unordX x).toNat, by omega⟩
     have hlt : i < ps.length := by omega
     have hn := hpa _ (List.getElem_mem hlt)
     rw [hi2, Int.toNat_natCast, List.getD_eq_getElem?_getD, List.getElem?_eq_getElem hlt, Option.getD_some] at hP
     rw [hi2] at cpl
     have q2 : (encIs (ps.map (plN t))).getD i [] = [.raw (.int .i64 ((t.length - ps[i] : Nat) : Int))] := by
      simp [encIs, List.getD_eq_getElem?_getD, hlt, plN]
     have hl : (encIs (ps.map (plN t))).length = ps.length := by simp [encIs]
     have hlt2 : t.length - ps[i] < t.length := by omega
     have hat := encTs_at t (t.length - ps[i]) hlt2
     have hpos : posT t (t.length - ps[i]) = t[t.length - ps[i]].pos := by unfold posT; rw [List.getD_eq_getElem?_getD, List.getElem?_eq_getElem hlt2]; rfl
     rw [hpos] at hP
     simp only [go_sem, hA, k1, mixed]
     refine goCallD 400 cpl rfl (by simp only [go_sem]) (by simp only [go_sem, hA]) ?_
     simp only [go_sem, hA, h10, hP, encTs_length, hl, Int.toNat_natCast, q2, hat, encT, Tryz.results13]
     exact ⟨⟨by omega, by omega⟩, ⟨by omega, by omega⟩, by show chk _ _ _ = true; kernel_rfl, rfl⟩
    ·rw [if_neg hu] at ho
     have k1 : decide (usesX x.uses = 0) = false := decide_eq_false hu
     rw [if_neg (fun h => by have := h.2; omega)] at hP
     simp only [go_sem, hA, k1, g0, hP, Tryz.results13]
     rfl
   have g1 : decide (srcX sdeclX x = 10) = false := decide_eq_false h10
   by_cases h0 : srcX sdeclX x = 0
   ·have g2 : decide ((0 : Int) = 10) = false := by decide
    rw [if_pos h0] at hP
    simp only [go_sem, hA, g2, h0, hP, undef, Tryz.results13]
   ·have g0 : (decide ¬srcX sdeclX x = 0) = true := decide_eq_true h0
    rw [if_neg h0, if_neg fun h => h10 h.1] at hP
    simp only [go_sem, hA, g1, g0, hP, undef, Tryz.results13]
    rfl
theorem parseP_few (s : ByteArray) (hs : s.size ≤ 500) : (parseP s).1.uses.length ≤ 1048576 ∧ (parseP s).1.decls.length ≤ 1048576 ∧ ∀ d ∈ (parseP s).1.decls, nodesE d.body ≤ 1048576 ∧ d.names.length ≤ 1048576 := by
 obtain ⟨b1, b2, _⟩ := scan_bound s
 have hz : ∀ q : Int × Int, ((sr0, q) : Sr × Int × Int).1.uses.length ≤ 1048576 ∧ ((sr0, q) : Sr × Int × Int).1.decls.length ≤ 1048576 ∧ ∀ d ∈ ((sr0, q) : Sr × Int × Int).1.decls, nodesE d.body ≤ 1048576 ∧ d.names.length ≤ 1048576 := fun q => ⟨by simp [], by simp [], fun d h => by cases h⟩
 unfold parseP
 split
 ·exact hz _
 ·cases hp : pSrc ((scanX s).1.length + 1) ((scanX s).1.map kt) with
  | mk a r =>
   cases a with
   | none => exact hz _
   | some e2 =>
    obtain ⟨x, ps⟩ := e2
    simp only
    split
    ·rename_i h0
     have hfew := src_few hp
     have hl := src_lens hp
     have hok := src_ok h0
     rw [List.length_map] at hfew hl
     exact ⟨by simp only; omega, by simp only; omega, fun d hd => ⟨by have := hfew d hd; omega, by have := (hok.dec d hd).len; omega⟩⟩
    ·split
     ·exact hz _
     ·exact hz _
set_option maxRecDepth 100000 in
set_option maxHeartbeats 16000000 in
theorem lawParse_c (s : ByteArray) : Con Tryz.prog 3 [.d (.raw (.string s))] (.d (.raw (.bool true))) := by
 have ca := awake22_c
 have ce := pparse_c s
 have cr := rparse_c s
 have hfew := parseP_few s
 generalize parseP s = R at ce cr hfew
 obtain ⟨x, n, c⟩ := R
 refine con_of Tryz.func3 rfl (by decide +kernel) rfl rfl (by simp [Tryz.ntmps3]) fun A hA => ?_
 rw [Tryz.ntmps3] at hA
 refine goC 400 ?_
 by_cases h5 : 500 < s.size
 ·have k0 : decide ((500 : Int) < (s.size : Int)) = true := decide_eq_true (by omega)
  simp only [go_sem, hA, k0]
  refine goCall 400 ca rfl rfl (by simp only [go_sem, hA]) ?_
  simp only [go_sem, hA, Tryz.results3]
 have k0 : decide ((500 : Int) < (s.size : Int)) = false := decide_eq_false (by omega)
 obtain ⟨f1, f2, f3⟩ := hfew (by omega)
 have cs := rSameSource_c x x f1 f2 f3
 rw [(sameSr_iff x x).2 rfl] at cs
 have k1 : decide (n = n) = true := decide_eq_true rfl
 have k2 : decide (c = c) = true := decide_eq_true rfl
 simp only [go_sem, hA, k0]
 refine goCall 400 ce rfl (by simp only [go_sem]) (by simp only [go_sem, hA]) ?_
 simp only [go_sem, hA, avS]
 refine goCall 400 cr rfl (by simp only [go_sem]) (by simp only [go_sem, hA]) ?_
 simp only [go_sem, hA, avS]
 refine goCall 400 cs rfl (by simp only [go_sem, avS]) (by simp only [go_sem, hA]) ?_
 simp only [go_sem, hA]
 refine goCall 400 ca rfl rfl (by simp only [go_sem, hA]) ?_
 simp only [go_sem, hA, Tryz.results3]
end
end Go.Proofs.YtnnolijagpakiaaGreatDoor
