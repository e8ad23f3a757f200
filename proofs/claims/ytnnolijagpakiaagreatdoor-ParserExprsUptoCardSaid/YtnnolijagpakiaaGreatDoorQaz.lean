/- Texts of this proof, part 26: what the proof uses of them. -/
import Derived.Test.YtnnolijagpakiaaGreatDoorQax
import Derived.Test.YtnnolijagpakiaaGreatDoorQay
import Derived.Test.YtnnolijagpakiaaGreatDoorQat
import Derived.Test.YtnnolijagpakiaaGreatDoorQaw
namespace Go.Proofs.YtnnolijagpakiaaGreatDoor
open Go Go.RowKit
theorem avE_ex0 : avE (.mk 0 ⟨#[]⟩ ⟨#[]⟩ 0 0 []) = .agg [.d (.raw (.int .i64 0)), .d (.raw (.string ⟨#[]⟩)), .d (.raw (.string ⟨#[]⟩)), .d (.raw (.int .i64 0)), .d (.raw (.int .i64 0)), .d (.sl [])] := by rw [avE_eq]; rfl
theorem ne30 : (decide ¬(3 : Int) = 0) = true := rfl
theorem postEx_cases {t : List LTok} {x : PR Ex} {o : Out} (h : postTry (postEx t x) o) : (∃ e s', x = (some e, restK s') ∧ o = .ret (.tup [.d (.raw (.int .i64 0)), .d (.raw (.int .i64 0))]) (exL s' (exB e)) ∧ Rdy s' t) ∨ ∃ r, x = (none, r) ∧ o = .ret (.tup [.d (.raw (.int .i64 (t.length - r.length : Nat))), .d (.raw (.int .i64 3))]) ⟨[], []⟩ := by
  obtain ⟨a, r⟩ := x
  cases a with
  | some e =>
    left
    rcases h with ⟨res, L', h1, s', h2, h3, rfl⟩ | ⟨n, h1, s', h2, _⟩
    · cases h2
      exact ⟨e, s', rfl, h1, h3⟩
    · cases h2
  | none =>
    right
    rcases h with ⟨res, L', h1, h2⟩ | ⟨n, h1, h2⟩
    · cases h2
    · injection h2 with h2
      injection h2 with _ h2
      injection h2 with h2
      simp only [Array.mk.injEq, List.cons.injEq, Value.int.injEq, true_and, and_true] at h2
      subst h2
      exact ⟨r, rfl, h1⟩
theorem postEx_pan {t : List LTok} {x : PR Ex} (v : Value) (h : postEx t x (.pan v)) : ∃ n, v = pvF n := by
  obtain ⟨a, r⟩ := x
  cases a with
  | some e =>
    obtain ⟨s', h, _⟩ := h
    cases h
  | none =>
    injection h with h
    exact ⟨_, h⟩
set_option maxRecDepth 100000 in
set_option maxHeartbeats 8000000 in
theorem pexpr_c (t : List LTok) (ht : t.length ≤ 524288) : Con Tryz.prog 16 [.d (.sl (encTs t))] (.tup [avE (exprP t).1, .d (.raw (.int .i64 (exprP t).2.1)), .d (.raw (.int .i64 (exprP t).2.2))]) := by
  refine con_ofX Tryz.func16 rfl (by decide +kernel) (by rw [avE_eq]; rfl) rfl (by simp [Tryz.ntmps16]) fun A hA hX => ?_
  rw [Tryz.ntmps16] at hA
  refine goC 26 ?_
  simp only [go_sem, hA]
  refine goAs 901 0 (by simp only [go_sem]) (by simp only [go_sem]; rfl) trivial (hX 901) rfl (by simp only [go_sem, hA]) ?_
  simp only [go_sem]
  refine goAs 902 8 (by simp only [go_sem]) (by simp only [go_sem]; rfl) trivial (hX 902) rfl (by simp only [go_sem, hA]) ?_
  simp only [go_sem]
  refine goAs 904 2 (by simp only [go_sem]) (by simp only [go_sem]; rfl) trivial (hX 904) rfl (by simp only [go_sem, hA]) ?_
  simp only [go_sem]
  refine satC_stkCell 910 901 2 11 0 120 (hX 910) rfl rfl rfl ?_
  refine satC_stkCell 911 901 3 1 0 9 (hX 911) rfl rfl rfl ?_
  refine satC_stkCell 912 901 4 1 0 3 (hX 912) rfl rfl rfl ?_
  refine satC_stkCell 913 901 5 6 0 36 (hX 913) rfl rfl rfl ?_
  refine goMid 100600 [0, 2, 3, 4, 5, 6, 7, 8] [0, 901, 902, 904] [910, 911, 912, 913] (fun σ => ∃ e s', pE (t.length + 1) (t.map kt) = (some e, restK s') ∧ Rdy s' t ∧ σ = (⟨[(0, .d (.sl (encTs t))), (2, .box 0 0), (3, .d (.raw (.int .i64 0))), (4, .d (.raw (.int .i64 0))), (5, .box 902 0), (6, .box 904 0), (7, .d (.raw (.int .i64 0))), (8, .d (.raw (.int .i64 0)))], [(0, some exZ), (901, some (rdBlk s')), (902, some rBox), (904, some (exB e))], (rdL s').toks⟩ : St)) ?_ ?_
  · simp only [go_sem, hA]
    refine goCallL [901, 902, 904] [910, 911, 912, 913] 100600 (try_con (expr1_c hN hM hI (rs0 t) t (rdy0 t (by omega))) postEx_pan) rfl rfl rfl rfl rfl (by simp only [go_sem, hA]) (fun res L' h => ?_) (fun pv h => ?_)
    rotate_left
    · rcases h with ⟨_, _, h, _⟩ | ⟨_, h, _⟩ <;> cases h
    rcases postEx_cases h with ⟨e, s', e1, h, hS⟩ | ⟨r, e1, h⟩
    · cases h
      simp only [go_sem, hA]
      exact ⟨e, s', e1, hS, rfl⟩
    · cases h
      have hx : exprP t = (.mk 0 ⟨#[]⟩ ⟨#[]⟩ 0 0 [], ((t.length - r.length : Nat) : Int), 3) := by unfold exprP; rw [show pE (t.length + 1) (t.map kt) = (none, r) from e1]
      simp only [go_sem, hA, ne30, hx, avE_ex0, Tryz.results16]
  rintro σ ⟨e, s', e1, hS, rfl⟩
  have hfew := pE_few _ _ _ _ e1
  rw [List.length_map] at hfew
  refine goC 300 ?_
  simp only [go_sem, hA]
  refine goCall 300 (sCheckExpr_c e (by omega)) rfl (by simp only [go_sem, avE_eq]) (by simp only [go_sem, hA]) ?_
  by_cases h0 : checkX e = 0
  · have hx : exprP t = (e, ((t.length - (restK s').length : Nat) : Int), 0) := by unfold exprP; rw [e1]; exact if_pos h0
    have hp := hS.pos
    simp only [go_sem, hA, h0, hx, avE_eq, hp, mixed, Tryz.results16]
    show chk _ _ _ = true
    kernel_rfl
  · have hx : exprP t = (.mk 0 ⟨#[]⟩ ⟨#[]⟩ 0 0 [], 0, checkX e) := by unfold exprP; rw [e1]; exact if_neg h0
    have g0 : (decide ¬checkX e = 0) = true := decide_eq_true h0
    simp only [go_sem, hA, g0, hx, avE_ex0, Tryz.results16]
end Go.Proofs.YtnnolijagpakiaaGreatDoor
namespace Go.Proofs.YtnnolijagpakiaaGreatDoor
open Go Go.RowKit
theorem avS0 : avS ⟨[], []⟩ = .agg [.d (.sl []), .d (.sl [])] := rfl
end Go.Proofs.YtnnolijagpakiaaGreatDoor
namespace Go.Proofs.YtnnolijagpakiaaGreatDoor
open Go Go.RowKit
abbrev un1St (x : Sr) (q : Nat) : St := ⟨[(1, .box 0 0), (2, .d (.raw (.int .i64 0))), (3, .d (.raw (.int .i64 q)))], [(0, some (srB x))], []⟩
abbrev un2St (x : Sr) (q : Nat) : St := ⟨[(1, .box 0 0), (2, .d (.raw (.int .i64 0))), (4, .d (.raw (.int .i64 q)))], [(0, some (srB x))], []⟩
abbrev plF (l : List Dc) : Nat → Int := fun q => if misplaced l q then (q : Int) else 0
theorem plF_hit {l : List Dc} {q : Nat} (h : firstN (plF l) q = 0) (hq : q < l.length) (hm : misplaced l q = true) : placeX l = q ∧ ¬ (q : Int) = 0 := by
  have h0 : ¬ (q : Int) = 0 := by
    unfold misplaced at hm
    simp only [Bool.and_eq_true, decide_eq_true_eq] at hm
    omega
  have e : plF l q = q := if_pos hm
  have := firstN_hit (n := l.length) h hq (by rw [e]; exact h0)
  exact ⟨this.trans e, h0⟩
set_option maxRecDepth 100000 in
set_option maxHeartbeats 16000000 in
theorem unordered_c (x : Sr) (hl : x.uses.length ≤ 1048576) (hd : x.decls.length ≤ 1048576) : Con Tryz.prog 30 [avS x] (.d (.raw (.int .i64 (unordX x)))) := by
  refine con_of Tryz.func30 rfl (by decide +kernel) rfl rfl (by simp [Tryz.ntmps30]) fun A hA => ?_
  rw [Tryz.ntmps30] at hA
  refine goMid 300 [1, 2] [0] [] (fun σ => σ = (⟨[(1, .box 0 0), (2, .d (.raw (.int .i64 0)))], [(0, some (srB x))], []⟩ : St)) (by simp only [go_sem, hA, avS]) ?_
  rintro σ rfl
  refine goMid 100600 [1, 2] [0] [] (fun σ => firstN (usesBad x.uses) x.uses.length = 0 ∧ σ = (⟨[(1, .box 0 0), (2, .d (.raw (.int .i64 0)))], [(0, some (srB x))], []⟩ : St)) ?_ ?_
  · simp only [go_sem, hA]
    refine satC_loop [1, 2, 3] [0] [] (fun y σ => ∃ q : Nat, 1 ≤ q ∧ (q ≤ x.uses.length ∨ q = 1) ∧ y = x.uses.length + 1 - q ∧ firstN (usesBad x.uses) q = 0 ∧ σ = un1St x q) x.uses.length ⟨1, by omega, .inr rfl, by omega, by rfl, rfl⟩ ?_
    rintro y σ ⟨q, hq1, hq, rfl, hf, rfl⟩
    refine goC 400 ?_
    by_cases hlt : q < x.uses.length
    · have k1 : decide ((q : Int) < (x.uses.length : Int)) = true := decide_eq_true (by omega)
      have hq2 : ((q : Int) - 1).toNat = q - 1 := by omega
      have hat := atB_get x.uses q hlt
      have hat1 := atB_get x.uses (q - 1) (by omega)
      have hin : inI64 ((q : Int) - 1) := by unfold inI64; omega
      have hw : IntKind.i64.wrap ((q : Int) - 1) = (q : Int) - 1 := wrapI64 hin
      cases hls : ltS x.uses[q - 1] x.uses[q] with
      | false =>
        have hls' : Op.bytesLess x.uses[q - 1].data.toList x.uses[q].data.toList = false := hls
        have hb : usesBad x.uses q = 1 := by unfold usesBad; rw [hat, hat1]; exact if_pos ⟨by omega, hls⟩
        have hn : firstN (usesBad x.uses) x.uses.length = 1 := by rw [firstN_hit hf hlt (by rw [hb]; decide), hb]
        have hr : unordX x = -1 := by unfold unordX; rw [hn]; rfl
        simp only [go_sem, hA, encS_length, k1, hq2, Int.toNat_natCast, encS_at x.uses q hlt, encS_at x.uses (q - 1) (by omega), hls', hr, mixed, Tryz.results30]
        exact ⟨hin, ⟨by omega, by omega⟩, ⟨by omega, by omega⟩, by show chk _ _ _ = true; kernel_rfl⟩
      | true =>
        have hls' : Op.bytesLess x.uses[q - 1].data.toList x.uses[q].data.toList = true := hls
        have hb : usesBad x.uses q = 0 := by unfold usesBad; rw [hat, hat1]; exact if_neg fun h => by rw [hls] at h; cases h.2
        simp only [go_sem, hA, encS_length, k1, hq2, Int.toNat_natCast, encS_at x.uses q hlt, encS_at x.uses (q - 1) (by omega), hls', mixed]
        exact ⟨hin, ⟨by omega, by omega⟩, ⟨by omega, by omega⟩, by show chk _ _ _ = true; kernel_rfl, by unfold inI64; omega, x.uses.length + 1 - (q + 1), by omega, q + 1, by omega, .inl (by omega), rfl, firstN_step hf hb, rfl⟩
    · have k1 : decide ((q : Int) < (x.uses.length : Int)) = false := decide_eq_false (by omega)
      have hz : firstN (usesBad x.uses) x.uses.length = 0 := by
        rcases hq with hq | hq
        · obtain rfl : q = x.uses.length := by omega
          exact hf
        · subst hq
          rcases Nat.lt_or_ge x.uses.length 1 with h | h
          · rw [show x.uses.length = 0 by omega]; rfl
          · rw [show x.uses.length = 1 by omega]; exact hf
      simp only [go_sem, hA, encS_length, k1]
      exact hz
  rintro σ ⟨hz, rfl⟩
  have hu : unordX x = if placeX x.decls = 0 then -1 else placeX x.decls := by unfold unordX; rw [hz]; rfl
  refine goC 400 ?_
  simp only [go_sem, hA]
  refine satC_loop [1, 2, 4] [0] [] (fun y σ => ∃ q : Nat, 1 ≤ q ∧ (q ≤ x.decls.length ∨ q = 1) ∧ y = x.decls.length + 1 - q ∧ firstN (plF x.decls) q = 0 ∧ σ = un2St x q) x.decls.length ⟨1, by omega, .inr rfl, by omega, by unfold firstN plF misplaced; rfl, rfl⟩ ?_
  rintro y σ ⟨q, hq1, hq, rfl, hf, rfl⟩
  refine goC 400 ?_
  by_cases hlt : q < x.decls.length
  case neg =>
    have k1 : decide ((q : Int) < (x.decls.length : Int)) = false := decide_eq_false (by omega)
    have hz : placeX x.decls = 0 := by
      show firstN (plF x.decls) x.decls.length = 0
      rcases hq with hq | hq
      · obtain rfl : q = x.decls.length := by omega
        exact hf
      · subst hq
        rcases Nat.lt_or_ge x.decls.length 1 with h | h
        · rw [show x.decls.length = 0 by omega]; rfl
        · rw [show x.decls.length = 1 by omega]; exact hf
    have hr : unordX x = -1 := by rw [hu, if_pos hz]
    simp only [go_sem, hA, encDs_length, k1, hr, Tryz.results30]
  have k1 : decide ((q : Int) < (x.decls.length : Int)) = true := decide_eq_true (by omega)
  have hq2 : ((q : Int) - 1).toNat = q - 1 := by omega
  have hat := atD_get x.decls q hlt
  have hat1 := atD_get x.decls (q - 1) (by omega)
  have hin : inI64 ((q : Int) - 1) := by unfold inI64; omega
  have hm : misplaced x.decls q = (decide (¬ x.decls[q].id = 0) && (decide (x.decls[q - 1].id = 0) || decide (x.decls[q].id ≤ x.decls[q - 1].id))) := by
    unfold misplaced; rw [hat, hat1, decide_eq_true (show 0 < q by omega), Bool.true_and]
  have hgo : misplaced x.decls q = false → firstN (plF x.decls) (q + 1) = 0 := fun h => firstN_step hf (by unfold plF; rw [h]; rfl)
  have hhit : misplaced x.decls q = true → unordX x = q := fun h => by
    obtain ⟨e1, e2⟩ := plF_hit hf hlt h
    rw [hu, e1, if_neg e2]
  have hd1 := encDs_at x.decls q hlt
  have hd2 := encDs_at x.decls (q - 1) (by omega)
  by_cases h1 : x.decls[q].id = 0
  · have g1 : (decide ¬ x.decls[q].id = 0) = false := decide_eq_false (by simpa using h1)
    have hz := hgo (by rw [hm, g1]; rfl)
    simp only [go_sem, hA, encDs_length, k1, Int.toNat_natCast, hd1, encD, g1, undef, mixed]
    exact ⟨⟨by omega, by omega⟩, by show chk _ _ _ = true; kernel_rfl, by unfold inI64; omega, x.decls.length + 1 - (q + 1), by omega, q + 1, by omega, .inl (by omega), rfl, hz, rfl⟩
  · have g1 : (decide ¬ x.decls[q].id = 0) = true := decide_eq_true h1
    by_cases h2 : x.decls[q - 1].id = 0
    · have g2 : decide (x.decls[q - 1].id = 0) = true := decide_eq_true h2
      have hr := hhit (by rw [hm, g1, g2]; rfl)
      simp only [go_sem, hA, encDs_length, k1, hq2, Int.toNat_natCast, hd1, hd2, encD, g1, g2, undef, hr, mixed, Tryz.results30]
      exact ⟨⟨by omega, by omega⟩, hin, ⟨by omega, by omega⟩, by show chk _ _ _ = true; kernel_rfl⟩
    · have g2 : decide (x.decls[q - 1].id = 0) = false := decide_eq_false h2
      cases h3 : decide (x.decls[q].id ≤ x.decls[q - 1].id) with
      | true =>
        have hr := hhit (by rw [hm, g1, g2, h3]; rfl)
        simp only [go_sem, hA, encDs_length, k1, hq2, Int.toNat_natCast, hd1, hd2, encD, g1, g2, h3, hr, mixed, Tryz.results30]
        exact ⟨⟨by omega, by omega⟩, hin, ⟨by omega, by omega⟩, hin, ⟨by omega, by omega⟩, ⟨by omega, by omega⟩, by show chk _ _ _ = true; kernel_rfl⟩
      | false =>
        have hz := hgo (by rw [hm, g1, g2, h3]; rfl)
        simp only [go_sem, hA, encDs_length, k1, hq2, Int.toNat_natCast, hd1, hd2, encD, g1, g2, h3, mixed]
        exact ⟨⟨by omega, by omega⟩, hin, ⟨by omega, by omega⟩, hin, ⟨by omega, by omega⟩, ⟨by omega, by omega⟩, by show chk _ _ _ = true; kernel_rfl, by unfold inI64; omega, x.decls.length + 1 - (q + 1), by omega, q + 1, by omega, .inl (by omega), rfl, hz, rfl⟩
end Go.Proofs.YtnnolijagpakiaaGreatDoor
namespace Go.Proofs.YtnnolijagpakiaaGreatDoor
open Go Go.RowKit
theorem postPa_cases {t : List LTok} {x : PR (Sr × List Nat)} {o : Out} (h : postTry (postPa t x) o) : (∃ e s', x = (some e, restK s') ∧ o = .ret (.tup [.d (.raw (.int .i64 0)), .d (.raw (.int .i64 0))]) (paL s' (srB e.1) (iB t e.2)) ∧ Rdy s' t) ∨ ∃ r, x = (none, r) ∧ o = .ret (.tup [.d (.raw (.int .i64 (t.length - r.length : Nat))), .d (.raw (.int .i64 3))]) ⟨[], []⟩ := by
  obtain ⟨a, r⟩ := x
  cases a with
  | some e =>
    left
    rcases h with ⟨res, L', h1, s', h2, h3, rfl⟩ | ⟨n, h1, s', h2, _⟩
    · cases h2
      exact ⟨e, s', rfl, h1, h3⟩
    · cases h2
  | none =>
    right
    rcases h with ⟨res, L', h1, h2⟩ | ⟨n, h1, h2⟩
    · cases h2
    · injection h2 with h2
      injection h2 with _ h2
      injection h2 with h2
      simp only [Array.mk.injEq, List.cons.injEq, Value.int.injEq, true_and, and_true] at h2
      subst h2
      exact ⟨r, rfl, h1⟩
theorem postPa_pan {t : List LTok} {x : PR (Sr × List Nat)} (v : Value) (h : postPa t x (.pan v)) : ∃ n, v = pvF n := by
  obtain ⟨a, r⟩ := x
  cases a with
  | some e =>
    obtain ⟨s', h, _⟩ := h
    cases h
  | none =>
    injection h with h
    exact ⟨_, h⟩
theorem pDecls_le (f : Nat) : ∀ (g : Nat) (l : List KT), (pDecls f g l).2.length ≤ l.length
  | 0, [] => Nat.le_refl _
  | _ + 1, [] => Nat.le_refl _
  | 0, y :: r => Nat.le_refl _
  | g + 1, y :: r => by
    rw [pDecls]
    exact bind_le (pDecl_le f (y :: r)) fun _ q h => bind_le (Nat.le_trans (pDecls_le f g q) h) fun _ _ h => h
theorem pSrc_le (f : Nat) (l : List KT) : (pSrc f l).2.length ≤ l.length := bind_le (pUses_le f l) fun _ q h => bind_le (Nat.le_trans (pDecls_le f f q) h) fun _ _ h => h
theorem uses_len : ∀ (f : Nat) (l r : List KT) (us : List ByteArray), pUses f l = (some us, r) → us.length + r.length ≤ l.length
  | 0, l, r, us, h => by cases h; simp
  | f + 1, l, r, us, h => by
    rw [pUses] at h
    split at h
    · obtain ⟨a, q, h1, h⟩ := bind_get h
      obtain ⟨u, q2, h2, h⟩ := bind_get h
      obtain ⟨vs, q3, h3, h⟩ := bind_get h
      cases h
      have e1 := pLab_le l.tail
      rw [h1] at e1
      have e2 := eat_few h2
      have e3 := uses_len f _ _ _ h3
      simp only [List.length_tail] at e1
      rw [List.length_cons]
      omega
    · cases h; simp
theorem decls_len (f : Nat) : ∀ (g : Nat) (l r : List KT) (ds : List (Dc × Nat)), pDecls f g l = (some ds, r) → ds.length + r.length ≤ l.length
  | 0, [], r, ds, h => by cases h; simp
  | _ + 1, [], r, ds, h => by cases h; simp
  | 0, y :: l, r, ds, h => by cases h
  | g + 1, y :: l, r, ds, h => by
    rw [pDecls] at h
    obtain ⟨d, q, h1, h⟩ := bind_get h
    obtain ⟨es, q2, h2, h⟩ := bind_get h
    cases h
    have e1 := pDecl_len h1
    have e2 := decls_len f g _ _ _ h2
    rw [List.length_cons]
    omega
theorem src_lens {f : Nat} {l r : List KT} {x : Sr} {ps : List Nat} (h : pSrc f l = (some (x, ps), r)) : x.uses.length ≤ l.length ∧ x.decls.length ≤ l.length := by
  unfold pSrc at h
  obtain ⟨us, q, h1, h⟩ := bind_get h
  obtain ⟨ds, q2, h2, h⟩ := bind_get h
  cases h
  have e1 := uses_len _ _ _ _ h1
  have e2 := decls_len _ _ _ _ _ h2
  simp only [List.length_map]
  omega
set_option maxRecDepth 100000 in
set_option maxHeartbeats 16000000 in
theorem pparse_c (s : ByteArray) : Con Tryz.prog 12 [.d (.raw (.string s))] (.tup [avS (parseP s).1, .d (.raw (.int .i64 (parseP s).2.1)), .d (.raw (.int .i64 (parseP s).2.2))]) := by
  obtain ⟨b1, b2, b3, b4, b5, b6⟩ := scan_bound s
  have csc := scan_c s
  have hP : parseP s = if ¬ (scanX s).2.2 = 0 then (sr0, (scanX s).2.1, (scanX s).2.2) else
      match pSrc ((scanX s).1.length + 1) ((scanX s).1.map kt) with
      | (none, r) => (sr0, if r.length = 0 then (s.size : Int) else posT (scanX s).1 ((scanX s).1.length - r.length), 3)
      | (some x, _) => if srcX sdeclX x.1 = 0 then (x.1, 0, 0) else if srcX sdeclX x.1 = 10 ∧ 0 ≤ unordX x.1 then (sr0, posT (scanX s).1 ((scanX s).1.length - x.2.getD (unordX x.1).toNat 0), 10) else (sr0, 0, srcX sdeclX x.1) := rfl
  generalize parseP s = R at hP ⊢
  obtain ⟨t, p, c, hx⟩ : ∃ t p c, scanX s = (t, p, c) := ⟨_, _, _, rfl⟩
  rw [hx] at b1 b2 b3 b4 b5 b6 csc hP
  simp only at b1 b2 b3 b4 b5 b6 csc hP
  refine con_ofX Tryz.func12 rfl (by decide +kernel) rfl rfl (by simp [Tryz.ntmps12]) fun A hA hX => ?_
  rw [Tryz.ntmps12] at hA
  refine goMid 300 [0, 2, 3, 4] [0] [] (fun σ => σ = (⟨[(0, .d (.raw (.string s))), (2, .box 0 0), (3, .d (.raw (.int .i64 0))), (4, .d (.raw (.int .i64 0)))], [(0, some srZ)], []⟩ : St)) (by simp only [go_sem, hA]) ?_
  rintro σ rfl
  refine goMid 300 [0, 2, 3, 4, 5, 6, 7] [0] [] (fun σ => σ = (⟨[(0, .d (.raw (.string s))), (2, .box 0 0), (3, .d (.raw (.int .i64 0))), (4, .d (.raw (.int .i64 0))), (5, .d (.sl (encTs t))), (6, .d (.raw (.int .i64 p))), (7, .d (.raw (.int .i64 c)))], [(0, some srZ)], []⟩ : St)) ?_ ?_
  · simp only [go_sem, hA]
    refine goCall 300 csc rfl (by simp only [go_sem]) (by simp only [go_sem, hA]) ?_
    simp only [go_sem, hA]
  rintro σ rfl
  refine goMid 300 [0, 2, 3, 4, 5] [0] [] (fun σ => c = 0 ∧ σ = (⟨[(0, .d (.raw (.string s))), (2, .box 0 0), (3, .d (.raw (.int .i64 0))), (4, .d (.raw (.int .i64 0))), (5, .d (.sl (encTs t)))], [(0, some srZ)], []⟩ : St)) ?_ ?_
  · by_cases hc : c = 0
    · have g0 : (decide ¬c = 0) = false := decide_eq_false (by simpa using hc)
      simp only [go_sem, hA, g0]
      exact hc
    · have g0 : (decide ¬c = 0) = true := decide_eq_true hc
      rw [if_pos hc] at hP
      simp only [go_sem, hA, g0, hP, avS0, Tryz.results12]
  rintro σ ⟨rfl, rfl⟩
  rw [if_neg (by simp)] at hP
  refine goC 10 ?_
  simp only [go_sem, hA]
  refine goAs 901 0 (by simp only [go_sem]) (by simp only [go_sem]; rfl) trivial (hX 901) rfl (by simp only [go_sem, hA]) ?_
  simp only [go_sem]
  refine goAs 902 8 (by simp only [go_sem]) (by simp only [go_sem]; rfl) trivial (hX 902) rfl (by simp only [go_sem, hA]) ?_
  simp only [go_sem]
  refine goAs 904 4 (by simp only [go_sem]) (by simp only [go_sem]; rfl) trivial (hX 904) rfl (by simp only [go_sem, hA]) ?_
  simp only [go_sem]
  refine goAs 905 2 (by simp only [go_sem]) (by simp only [go_sem]; rfl) trivial (hX 905) rfl (by simp only [go_sem, hA]) ?_
  simp only [go_sem]
  refine satC_stkCell 910 901 2 11 0 120 (hX 910) rfl rfl rfl ?_
  refine satC_stkCell 911 901 3 1 0 9 (hX 911) rfl rfl rfl ?_
  refine satC_stkCell 912 901 4 1 0 3 (hX 912) rfl rfl rfl ?_
  refine satC_stkCell 913 901 5 6 0 36 (hX 913) rfl rfl rfl ?_
  refine goMid 100600 [0, 2, 3, 4, 5, 9, 10, 11, 12] [0, 901, 902, 904, 905] [910, 911, 912, 913] (fun σ => ∃ e s', pSrc (t.length + 1) (t.map kt) = (some e, restK s') ∧ Rdy s' t ∧ σ = (⟨[(0, .d (.raw (.string s))), (2, .box 0 0), (3, .d (.raw (.int .i64 0))), (4, .d (.raw (.int .i64 0))), (5, .d (.sl (encTs t))), (9, .box 904 0), (10, .box 905 0), (11, .d (.raw (.int .i64 0))), (12, .d (.raw (.int .i64 0)))], [(0, some srZ), (901, some (rdBlk s')), (902, some rBox), (904, some (srB e.1)), (905, some (iB t e.2))], (rdL s').toks⟩ : St)) ?_ ?_
  · simp only [go_sem, hA]
    refine goCallL [901, 902, 904, 905] [910, 911, 912, 913] 300 (try_con (parse1_c hN hM hI (rs0 t) t (rdy0 t (by omega))) postPa_pan) rfl rfl rfl rfl rfl (by simp only [go_sem, hA]) (fun res L' h => ?_) (fun pv h => ?_)
    rotate_left
    · rcases h with ⟨_, _, h, _⟩ | ⟨_, h, _⟩ <;> cases h
    rcases postPa_cases h with ⟨e, s', e1, h, hS⟩ | ⟨r, e1, h⟩
    · cases h
      simp only [go_sem, hA]
      exact ⟨e, s', e1, hS, rfl⟩
    · cases h
      rw [show pSrc (t.length + 1) (t.map kt) = (none, r) from e1] at hP
      simp only at hP
      have hr : r.length ≤ t.length := by
        have h1 := pSrc_le (t.length + 1) (t.map kt)
        rw [show pSrc (t.length + 1) (t.map kt) = (none, r) from e1, List.length_map] at h1
        exact h1
      by_cases h0 : r.length = 0
      · have g1 : decide (((t.length - r.length : Nat) : Int) = (t.length : Int)) = true := decide_eq_true (by omega)
        rw [if_pos h0] at hP
        simp only [go_sem, hA, ne30, encTs_length, g1, hP, avS0, Tryz.results12]
      · have g1 : decide (((t.length - r.length : Nat) : Int) = (t.length : Int)) = false := decide_eq_false (by omega)
        rw [if_neg h0] at hP
        have hlt : t.length - r.length < t.length := by omega
        have hat := encTs_at t (t.length - r.length) hlt
        have hpos : posT t (t.length - r.length) = t[t.length - r.length].pos := by unfold posT; rw [List.getD_eq_getElem?_getD, List.getElem?_eq_getElem hlt]; rfl
        rw [hpos] at hP
        simp only [go_sem, hA, ne30, encTs_length, g1, hP, avS0, Int.toNat_natCast, hat, encT, mixed, Tryz.results12]
        exact ⟨⟨by omega, by omega⟩, by show chk _ _ _ = true; kernel_rfl⟩
  rintro σ ⟨⟨x, ps⟩, s', e1, hS, rfl⟩
  have hfew := src_few e1
  obtain ⟨hpl, hpa⟩ := src_at e1
  rw [List.length_map] at hfew hpa
  rw [e1] at hP
  simp only at hP
  refine goC 300 ?_
  simp only [go_sem, hA]
  refine goCall 300 (ssource_c x (fun d hd => Nat.le_trans (hfew d hd) (by omega))) rfl (by simp only [go_sem, avS]) (by simp only [go_sem, hA]) ?_
  by_cases h0 : srcX sdeclX x = 0
  · rw [if_pos h0] at hP
    simp only [go_sem, hA, h0, hP, avS, Tryz.results12]
  have g0 : (decide ¬srcX sdeclX x = 0) = true := decide_eq_true h0
  rw [if_neg h0] at hP
  simp only [go_sem, hA, g0]
  obtain ⟨hl1, hl2⟩ := src_lens e1
  rw [List.length_map] at hl1 hl2
  refine goCall 300 (unordered_c x (by omega) (by omega)) rfl (by simp only [go_sem, avS]) (by simp only [go_sem, hA]) ?_
  obtain ⟨hu1, hu2⟩ := unord_lt x
  by_cases h10 : srcX sdeclX x = 10
  · have g1 : decide (srcX sdeclX x = 10) = true := decide_eq_true h10
    by_cases hi : 0 ≤ unordX x
    · rw [if_pos ⟨h10, hi⟩] at hP
      obtain ⟨i, hi2⟩ : ∃ i : Nat, unordX x = i := ⟨(unordX x).toNat, by omega⟩
      have hlt : i < ps.length := by have := (hu2 hi).2; omega
      have hn := hpa _ (List.getElem_mem hlt)
      rw [hi2, Int.toNat_natCast, List.getD_eq_getElem?_getD, List.getElem?_eq_getElem hlt, Option.getD_some] at hP
      have g2 : decide ((0 : Int) ≤ (i : Int)) = true := decide_eq_true (by omega)
      have q2 : (encIs (ps.map (plN t))).getD i [] = [.raw (.int .i64 ((t.length - ps[i] : Nat) : Int))] := by
        simp [encIs, List.getD_eq_getElem?_getD, hlt, plN]
      have hl : (encIs (ps.map (plN t))).length = ps.length := by simp [encIs]
      have hlt2 : t.length - ps[i] < t.length := by omega
      have hat := encTs_at t (t.length - ps[i]) hlt2
      have hpos : posT t (t.length - ps[i]) = t[t.length - ps[i]].pos := by unfold posT; rw [List.getD_eq_getElem?_getD, List.getElem?_eq_getElem hlt2]; rfl
      rw [hpos] at hP
      simp only [go_sem, hA, g2, hi2, h10, hP, avS0, encTs_length, hl, Int.toNat_natCast, q2, hat, encT, mixed, Tryz.results12]
      exact ⟨⟨by omega, by omega⟩, ⟨by omega, by omega⟩, by show chk _ _ _ = true; kernel_rfl⟩
    · rw [if_neg fun h => hi h.2] at hP
      have g2 : decide ((0 : Int) ≤ unordX x) = false := decide_eq_false hi
      simp only [go_sem, hA, g1, g2, hP, avS0, Tryz.results12]
  · have g1 : decide (srcX sdeclX x = 10) = false := decide_eq_false h10
    rw [if_neg fun h => h10 h.1] at hP
    simp only [go_sem, hA, g1, hP, avS0, undef, Tryz.results12]
end Go.Proofs.YtnnolijagpakiaaGreatDoor
namespace Go.Proofs.YtnnolijagpakiaaGreatDoor
open Go Go.RowKit
def greatT (t : List LTok) : Bool := t.any (fun x => decide (40 < x.text.length)) || decide (120 < t.length)
abbrev gtSt (t : List LTok) (q : Nat) : St := ⟨[(0, .d (.sl (encTs t))), (3, .d (.raw (.int .i64 q)))], [], []⟩
set_option maxRecDepth 100000 in
set_option maxHeartbeats 8000000 in
theorem greatT_c (t : List LTok) (hb : t.length ≤ 1048576) : Con Tryz.prog 15 [.d (.sl (encTs t))] (.d (.raw (.bool (greatT t)))) := by
  refine con_of Tryz.func15 rfl (by decide +kernel) rfl rfl (by simp [Tryz.ntmps15]) fun A hA => ?_
  rw [Tryz.ntmps15] at hA
  refine goC 400 ?_
  simp only [go_sem, hA]
  refine satC_loop [0, 3] [] [] (fun y σ => ∃ q : Nat, q ≤ t.length ∧ y = t.length - q ∧ ((t.take q).any fun x => decide (40 < x.text.length)) = false ∧ σ = gtSt t q) t.length ⟨0, by omega, by omega, rfl, by simp only [go_sem, gtSt]⟩ ?_
  rintro y σ ⟨q, hq, rfl, hf, rfl⟩
  refine goC 400 ?_
  by_cases hlt : q < t.length
  · have k1 : decide ((q : Int) < (t.length : Int)) = true := decide_eq_true (by omega)
    have hat := encTs_at t q hlt
    have hsz : (⟨t[q].text.toArray⟩ : ByteArray).size = t[q].text.length := by show t[q].text.toArray.size = _; simp
    by_cases h2 : 40 < t[q].text.length
    · have k2 : decide ((40 : Int) < (t[q].text.length : Int)) = true := decide_eq_true (by omega)
      have he : greatT t = true := by unfold greatT; rw [any_hit hlt (decide_eq_true h2)]; rfl
      simp only [go_sem, hA, gtSt, encTs_length, k1, Int.toNat_natCast, hat, encT, hsz, k2, he, Tryz.results15]
      exact ⟨by omega, by omega⟩
    · have k2 : decide ((40 : Int) < (t[q].text.length : Int)) = false := decide_eq_false (by omega)
      simp only [go_sem, hA, gtSt, encTs_length, k1, Int.toNat_natCast, hat, encT, hsz, k2]
      exact ⟨⟨by omega, by omega⟩, by unfold inI64; omega, t.length - (q + 1), by omega, q + 1, by omega, rfl, any_step hlt hf (decide_eq_false h2), rfl⟩
  · have k1 : decide ((q : Int) < (t.length : Int)) = false := decide_eq_false (by omega)
    obtain rfl : q = t.length := by omega
    rw [List.take_length] at hf
    have he : greatT t = decide ((120 : Int) < (t.length : Int)) := by
      unfold greatT
      rw [hf, Bool.false_or, Bool.eq_iff_iff, decide_eq_true_eq, decide_eq_true_eq]; omega
    simp only [go_sem, hA, gtSt, encTs_length, k1, he, Tryz.results15]
abbrev aw1 : ByteArray := ⟨#[108, 101, 116, 32, 102, 32, 61, 32, 40, 120, 32, 43, 32, 49, 32, 59]⟩
abbrev aw2 : ByteArray := ⟨#[108, 101, 116, 32, 102, 32, 61, 32, 40, 120]⟩
abbrev aw3 : ByteArray := ⟨#[108, 101, 116, 32, 97, 32, 64, 50, 32, 61, 32, 49, 32, 59, 32, 108, 101, 116, 32, 98, 32, 64, 49, 32, 61, 32, 50, 32, 59]⟩
abbrev aw4 : ByteArray := ⟨#[117, 115, 101, 32, 109, 32, 59, 32, 108, 101, 116, 32, 102, 32, 61, 32, 40, 120, 32, 43, 32, 49, 41, 32, 59]⟩
abbrev awX : Sr := ⟨[⟨#[109]⟩], [⟨0, 1, false, [⟨#[102]⟩], false, .mk 10 ⟨#[43]⟩ ⟨#[]⟩ 0 0 [.mk 3 ⟨#[120]⟩ ⟨#[]⟩ 0 0 [], .mk 1 ⟨#[]⟩ ⟨#[]⟩ 1 0 []]⟩]⟩
theorem aw1_p : parseP aw1 = (sr0, 15, 3) := by kernel_rfl
theorem aw2_p : parseP aw2 = (sr0, 10, 3) := by kernel_rfl
theorem aw3_p : parseP aw3 = (sr0, 19, 10) := by kernel_rfl
theorem aw4_p : parseP aw4 = (awX, 0, 0) := by kernel_rfl
set_option maxRecDepth 100000 in
set_option maxHeartbeats 16000000 in
theorem awake22_c : Con Tryz.prog 11 [] (.d (.raw (.bool true))) := by
  have c1 := pparse_c aw1
  have c2 := pparse_c aw2
  have c3 := pparse_c aw3
  have c4 := pparse_c aw4
  rw [aw1_p] at c1
  rw [aw2_p] at c2
  rw [aw3_p] at c3
  rw [aw4_p] at c4
  refine con_of Tryz.func11 rfl (by decide +kernel) rfl rfl (by simp [Tryz.ntmps11]) fun A hA => ?_
  rw [Tryz.ntmps11] at hA
  refine goC 300 ?_
  simp only [go_sem, hA]
  refine goCall 300 c1 rfl rfl (by simp only [go_sem, hA]) ?_
  simp only [go_sem, hA, avS]
  refine goCall 300 c2 rfl rfl (by simp only [go_sem, hA]) ?_
  simp only [go_sem, hA, avS]
  refine goCall 300 c3 rfl rfl (by simp only [go_sem, hA]) ?_
  simp only [go_sem, hA, avS]
  refine goCall 600 c4 rfl rfl (by simp only [go_sem, hA]) ?_
  simp only [go_sem, hA, avS, encS, encDs, encD, List.map_cons, List.map_nil, List.length_cons, List.length_nil, Ex.kind, Ex.name, Ex.more, Ex.int, Ex.den, Ex.sub, List.getD_cons_zero, List.drop_succ_cons, List.drop_zero, Tryz.results11]
end Go.Proofs.YtnnolijagpakiaaGreatDoor
namespace Go.Proofs.YtnnolijagpakiaaGreatDoor
open Go Go.RowKit
inductive Kp {α : Type} (x y : PR α) (z : List KT) : Prop
  | far (a : Option α) (r : List KT) (hr : r ≠ []) (h1 : x = (a, r)) (h2 : y = (a, r ++ z))
  | fits (a : α) (h1 : x = (some a, [])) (h2 : y = (some a, z))
  | dot (a : α) (h1 : x = (some a, [])) (hd : z.head? = some (sg [46])) (h2 : (y.1 = none ∧ y.2.length < z.length) ∨ y.2.length + 2 ≤ z.length)
  | short (h1 : x = (none, [])) (h2 : y.2.length < z.length ∨ y = (none, z))
def KK {α : Type} (g : List KT → PR α) : Prop := ∀ l z, Kp (g l) (g (l ++ z)) z
theorem nil_of_le {l : List KT} (h : l.length ≤ 0) : l = [] := List.length_eq_zero_iff.1 (Nat.le_zero.1 h)
theorem Kp.bind {α β : Type} {x y : PR α} {z : List KT} {f : α → List KT → PR β} (h : Kp x y z) (hf : ∀ a, KK (f a)) (hs : ∀ a r, (f a r).2.length ≤ r.length) : Kp (x.bind f) (y.bind f) z := by
  have hy : ∀ {n : Nat}, y.2.length ≤ n → (y.bind f).2.length ≤ n := fun {n} hn => by
    obtain ⟨a, r⟩ := y
    cases a with
    | none => exact hn
    | some a => exact Nat.le_trans (hs a r) hn
  cases h with
  | far a r hr h1 h2 =>
    subst h1 h2
    cases a with
    | none => exact .far none r hr rfl rfl
    | some a => exact hf a r z
  | fits a h1 h2 =>
    subst h1 h2
    exact hf a [] z
  | dot a h1 hd h2 =>
    subst h1
    have hn := nil_of_le (hs a [])
    have hx : PR.bind (some a, []) f = ((f a []).1, []) := by rw [PR.bind_some]; exact Prod.ext rfl hn
    rw [hx]
    have h3 : ((y.bind f).1 = none ∧ (y.bind f).2.length < z.length) ∨ (y.bind f).2.length + 2 ≤ z.length := by
      rcases h2 with ⟨e1, e2⟩ | e2
      · left
        obtain ⟨a', r⟩ := y
        cases e1
        exact ⟨rfl, e2⟩
      · right
        have := hy (n := z.length - 2) (by omega)
        omega
    cases (f a []).1 with
    | none =>
      refine .short rfl (.inl ?_)
      rcases h3 with h | h
      · exact h.2
      · omega
    | some b => exact .dot b rfl hd h3
  | short h1 h2 =>
    subst h1
    refine .short rfl ?_
    rcases h2 with h2 | h2
    · left
      have := hy (n := z.length - 1) (by omega)
      omega
    · right; rw [h2]; rfl
theorem kk_ret {α : Type} (a : α) : KK fun r => ((some a, r) : PR α) := fun l z => by
  cases l with
  | nil => exact .fits a rfl rfl
  | cons y r => exact .far (some a) (y :: r) (by simp) rfl rfl
theorem KK.bind {α β : Type} {g : List KT → PR α} {f : α → List KT → PR β} (h : KK g) (hf : ∀ a, KK (f a)) (hs : ∀ a r, (f a r).2.length ≤ r.length) : KK fun l => (g l).bind f := fun l z => (h l z).bind hf hs
theorem kp_rest {α : Type} (a : α) (l z : List KT) : Kp ((some a, l) : PR α) (some a, l ++ z) z := kk_ret a l z
theorem kp_none {α : Type} (y : KT) (l z : List KT) : Kp ((none, y :: l) : PR α) (none, y :: (l ++ z)) z := .far none (y :: l) (by simp) rfl rfl
theorem kp_nil {α : Type} {y : PR α} {z : List KT} (h : y.2.length < z.length ∨ y = (none, z)) : Kp ((none, []) : PR α) y z := .short rfl h
theorem kk_one {α : Type} {g : List KT → PR α} (h0 : g [] = (none, [])) (h1 : ∀ y, (∃ a, ∀ r, g (y :: r) = (some a, r)) ∨ ∀ r, g (y :: r) = (none, y :: r)) : KK g := fun l z => by
  cases l with
  | nil =>
    rw [h0, List.nil_append]
    cases z with
    | nil => exact kp_nil (.inr h0)
    | cons y r =>
      rcases h1 y with ⟨a, h⟩ | h
      · rw [h]; exact kp_nil (.inl (Nat.lt_succ_self _))
      · rw [h]; exact kp_nil (.inr rfl)
  | cons y r =>
    rw [List.cons_append]
    rcases h1 y with ⟨a, h⟩ | h
    · rw [h, h]; exact kp_rest a r z
    · rw [h, h]; exact kp_none y r z
theorem kk_eat (x : KT) : KK (eatT x) := kk_one rfl fun y => by
  by_cases h : y = x
  · exact .inl ⟨(), fun r => by rw [eatT, if_pos h]⟩
  · exact .inr fun r => by rw [eatT, if_neg h]
theorem kk_name : KK pName := kk_one rfl fun y => by
  by_cases h : nameT y = true
  · exact .inl ⟨_, fun r => by rw [pName, if_pos h]⟩
  · exact .inr fun r => by rw [pName, if_neg h]
theorem kk_num : KK pNum := kk_one rfl fun y => by
  by_cases h : numT y = true
  · exact .inl ⟨_, fun r => by rw [pNum, if_pos h]⟩
  · exact .inr fun r => by rw [pNum, if_neg h]
theorem name_two {q : List KT} : ((pName q).1 = none ∧ (pName q).2 = q) ∨ (pName q).2.length + 1 ≤ q.length := by
  cases q with
  | nil => exact .inl ⟨rfl, rfl⟩
  | cons w q =>
    rw [pName]
    split
    · exact .inr (Nat.le_refl _)
    · exact .inl ⟨rfl, rfl⟩
theorem kk_dot (n : ByteArray) : KK (pDot n) := fun l z => by
  cases l with
  | nil =>
    rw [List.nil_append]
    show Kp (some _, []) _ z
    cases z with
    | nil => exact .fits _ rfl rfl
    | cons y q =>
      rw [pDot]
      split
      · rename_i h
        refine .dot _ rfl (by rw [h]; rfl) ?_
        rcases name_two (q := q) with ⟨e1, e2⟩ | e2
        · left
          obtain ⟨a, r, hq⟩ : ∃ a r, pName q = (a, r) := ⟨_, _, rfl⟩
          rw [hq] at e1 e2 ⊢
          cases e1
          cases e2
          exact ⟨rfl, Nat.lt_succ_self _⟩
        · right
          obtain ⟨a, r, hq⟩ : ∃ a r, pName q = (a, r) := ⟨_, _, rfl⟩
          rw [hq] at e2 ⊢
          rw [List.length_cons]
          cases a with
          | none => show r.length + 2 ≤ _; simp only at e2; omega
          | some a => show r.length + 2 ≤ _; simp only at e2; omega
      · exact .fits _ rfl rfl
  | cons y l =>
    rw [List.cons_append, pDot, pDot]
    split
    · exact (kk_name l z).bind (fun m => kk_ret _) fun _ _ => Nat.le_refl _
    · exact .far (some _) (y :: l) (by simp) rfl rfl
theorem kk_leaf : KK pLeaf := fun l z => by
  cases l with
  | nil =>
    rw [List.nil_append]
    show Kp (none, []) _ z
    cases z with
    | nil => exact kp_nil (.inr rfl)
    | cons y q =>
      have hd := pDot_le (bsL y.2) q
      refine kp_nil ?_
      rw [pLeaf]
      repeat' split
      all_goals first | exact .inr rfl | (left; exact Nat.lt_succ_self _) | (left; rw [List.length_cons]; omega)
  | cons y l =>
    rw [List.cons_append, pLeaf, pLeaf]
    repeat' split
    all_goals first | exact kp_rest _ l z | exact kk_dot _ l z | exact kp_none y l z
section
variable {pe : List KT → PR Ex}
theorem kk_tail (h : KK pe) (h0 : pe [] = (none, [])) (hs : Shorter pe) (a : Ex) : KK (pTail pe a) := fun l z => by
  have hb : ∀ (F : Ex → Ex) (l : List KT), Kp ((pe l).bind fun b r => (some (F b), r)) ((pe (l ++ z)).bind fun b r => (some (F b), r)) z := fun F l => (h l z).bind (fun b => kk_ret _) fun _ _ => Nat.le_refl _
  have hl : ∀ (F : Ex → Ex) (r : List KT), ((pe r).bind fun b r => ((some (F b), r) : PR Ex)).2.length ≤ r.length := fun F r => bind_le (hs r) fun _ _ h => h
  cases l with
  | nil =>
    rw [List.nil_append]
    cases z with
    | nil => rw [pTail, h0]; exact kp_nil (.inr rfl)
    | cons y q =>
      have e : pTail pe a [] = (none, []) := by rw [pTail, h0]; rfl
      have h7 := hb (fun b => .mk 7 ⟨#[]⟩ ⟨#[]⟩ 0 0 [a, b]) []
      rw [h0] at h7
      rw [e, pTail]
      split
      · exact kp_nil (.inl (Nat.lt_succ_of_le (hl (fun b => .mk 12 ⟨#[]⟩ ⟨#[]⟩ 0 0 [a, b]) q)))
      · split
        · exact kp_nil (.inl (Nat.lt_succ_of_le (hl (fun b => .mk 10 (bsL y.2) ⟨#[]⟩ 0 0 [a, b]) q)))
        · exact h7
  | cons y l =>
    rw [List.cons_append, pTail, pTail]
    split
    · exact hb (fun b => .mk 12 ⟨#[]⟩ ⟨#[]⟩ 0 0 [a, b]) l
    · split
      · exact hb (fun b => .mk 10 (bsL y.2) ⟨#[]⟩ 0 0 [a, b]) l
      · exact hb (fun b => .mk 7 ⟨#[]⟩ ⟨#[]⟩ 0 0 [a, b]) (y :: l)
theorem kk_fun (h : KK pe) (hs : Shorter pe) : KK (pFun pe) := by
  unfold pFun
  repeat' first
    | exact kk_ret _
    | exact Nat.le_refl _
    | refine KK.bind kk_name (fun _ => ?_) fun _ _ => ?_
    | refine KK.bind (kk_eat _) (fun _ => ?_) fun _ _ => ?_
    | refine KK.bind h (fun _ => ?_) fun _ _ => ?_
    | refine bind_le (eat_le _ _) fun _ _ h => Nat.le_trans ?_ h
    | refine bind_le (pName_le _) fun _ _ h => Nat.le_trans ?_ h
    | refine bind_le (hs _) fun _ _ h => Nat.le_trans ?_ h
theorem kk_let (h : KK pe) (hs : Shorter pe) : KK (pLet pe) := by
  unfold pLet
  repeat' first
    | exact kk_ret _
    | exact Nat.le_refl _
    | refine KK.bind kk_name (fun _ => ?_) fun _ _ => ?_
    | refine KK.bind (kk_eat _) (fun _ => ?_) fun _ _ => ?_
    | refine KK.bind h (fun _ => ?_) fun _ _ => ?_
    | refine bind_le (eat_le _ _) fun _ _ h => Nat.le_trans ?_ h
    | refine bind_le (pName_le _) fun _ _ h => Nat.le_trans ?_ h
    | refine bind_le (hs _) fun _ _ h => Nat.le_trans ?_ h
theorem kk_if (h : KK pe) (hs : Shorter pe) : KK (pIf pe) := by
  unfold pIf
  repeat' first
    | exact kk_ret _
    | exact Nat.le_refl _
    | refine KK.bind kk_name (fun _ => ?_) fun _ _ => ?_
    | refine KK.bind (kk_eat _) (fun _ => ?_) fun _ _ => ?_
    | refine KK.bind h (fun _ => ?_) fun _ _ => ?_
    | refine bind_le (eat_le _ _) fun _ _ h => Nat.le_trans ?_ h
    | refine bind_le (pName_le _) fun _ _ h => Nat.le_trans ?_ h
    | refine bind_le (hs _) fun _ _ h => Nat.le_trans ?_ h
theorem kk_case (h : KK pe) (hs : Shorter pe) : KK (pCase pe) := by
  unfold pCase
  repeat' first
    | exact kk_ret _
    | exact Nat.le_refl _
    | refine KK.bind kk_name (fun _ => ?_) fun _ _ => ?_
    | refine KK.bind (kk_eat _) (fun _ => ?_) fun _ _ => ?_
    | refine KK.bind h (fun _ => ?_) fun _ _ => ?_
    | refine bind_le (eat_le _ _) fun _ _ h => Nat.le_trans ?_ h
    | refine bind_le (pName_le _) fun _ _ h => Nat.le_trans ?_ h
    | refine bind_le (hs _) fun _ _ h => Nat.le_trans ?_ h
theorem kk_chance : KK pChance := by
  unfold pChance
  repeat' first
    | exact kk_ret _
    | exact Nat.le_refl _
    | refine KK.bind kk_num (fun _ => ?_) fun _ _ => ?_
    | refine KK.bind (kk_eat _) (fun _ => ?_) fun _ _ => ?_
    | refine bind_le (eat_le _ _) fun _ _ h => Nat.le_trans ?_ h
    | refine bind_le (pNum_le _) fun _ _ h => Nat.le_trans ?_ h
theorem kk_sum (h : KK pe) (hs : Shorter pe) : KK (pSum pe) := by
  unfold pSum
  repeat' first
    | exact kk_ret _
    | exact Nat.le_refl _
    | refine KK.bind (kk_eat _) (fun _ => ?_) fun _ _ => ?_
    | refine KK.bind h (fun _ => ?_) fun _ _ => ?_
    | refine bind_le (eat_le _ _) fun _ _ h => Nat.le_trans ?_ h
    | refine bind_le (hs _) fun _ _ h => Nat.le_trans ?_ h
theorem kk_in (h : KK pe) (h0 : pe [] = (none, [])) (hs : Shorter pe) : KK (pIn pe) := fun l z => by
  have hb : ∀ l : List KT, Kp ((pe l).bind fun a r => pTail pe a r) ((pe (l ++ z)).bind fun a r => pTail pe a r) z := fun l => (h l z).bind (fun a => kk_tail h h0 hs a) fun a r => pTail_le hs a r
  cases l with
  | nil =>
    rw [List.nil_append]
    have e : pIn pe [] = (none, []) := by rw [pIn, h0]; rfl
    cases z with
    | nil => rw [e]; exact kp_nil (.inr rfl)
    | cons y q =>
      have he : ∀ {n} (r : List KT), r.length ≤ n → (pe r).2.length ≤ n := fun r hr => Nat.le_trans (hs r) hr
      have h1 : ∀ {n} (x : KT) (r : List KT), r.length ≤ n → (eatT x r).2.length ≤ n := fun x r hr => Nat.le_trans (eat_le x r) hr
      have h2 : ∀ {n} (r : List KT), r.length ≤ n → (pName r).2.length ≤ n := fun r hr => Nat.le_trans (pName_le r) hr
      have h3 : ∀ {n} (r : List KT), r.length ≤ n → (pNum r).2.length ≤ n := fun r hr => Nat.le_trans (pNum_le r) hr
      have hq : q.length ≤ q.length := Nat.le_refl _
      have k1 : (pFun pe q).2.length ≤ q.length := by
        unfold pFun
        repeat' first | exact he _ ‹_› | exact h1 _ _ ‹_› | exact h2 _ ‹_› | exact h3 _ ‹_› | exact ‹_› | refine bind_le ?_ fun _ _ _ => ?_
      have k2 : (pLet pe q).2.length ≤ q.length := by
        unfold pLet
        repeat' first | exact he _ ‹_› | exact h1 _ _ ‹_› | exact h2 _ ‹_› | exact h3 _ ‹_› | exact ‹_› | refine bind_le ?_ fun _ _ _ => ?_
      have k3 : (pIf pe q).2.length ≤ q.length := by
        unfold pIf
        repeat' first | exact he _ ‹_› | exact h1 _ _ ‹_› | exact h2 _ ‹_› | exact h3 _ ‹_› | exact ‹_› | refine bind_le ?_ fun _ _ _ => ?_
      have k4 : (pCase pe q).2.length ≤ q.length := by
        unfold pCase
        repeat' first | exact he _ ‹_› | exact h1 _ _ ‹_› | exact h2 _ ‹_› | exact h3 _ ‹_› | exact ‹_› | refine bind_le ?_ fun _ _ _ => ?_
      have k5 : (pChance q).2.length ≤ q.length := by
        unfold pChance
        repeat' first | exact he _ ‹_› | exact h1 _ _ ‹_› | exact h2 _ ‹_› | exact h3 _ ‹_› | exact ‹_› | refine bind_le ?_ fun _ _ _ => ?_
      have k6 : (pSum pe q).2.length ≤ q.length := by
        unfold pSum
        repeat' first | exact he _ ‹_› | exact h1 _ _ ‹_› | exact h2 _ ‹_› | exact h3 _ ‹_› | exact ‹_› | refine bind_le ?_ fun _ _ _ => ?_
      have h7 := hb []
      rw [h0] at h7
      rw [e, pIn]
      repeat' split
      · exact kp_nil (.inl (Nat.lt_succ_of_le k1))
      · exact kp_nil (.inl (Nat.lt_succ_of_le k2))
      · exact kp_nil (.inl (Nat.lt_succ_of_le k3))
      · exact kp_nil (.inl (Nat.lt_succ_of_le k4))
      · exact kp_nil (.inl (Nat.lt_succ_of_le k5))
      · exact kp_nil (.inl (Nat.lt_succ_of_le k6))
      · exact h7
  | cons y l =>
    rw [List.cons_append, pIn, pIn]
    repeat' split
    · exact kk_fun h hs l z
    · exact kk_let h hs l z
    · exact kk_if h hs l z
    · exact kk_case h hs l z
    · exact kk_chance l z
    · exact kk_sum h hs l z
    · exact hb (y :: l)
end
theorem kk_E : ∀ f, KK (pE f)
  | 0 => fun l z => by
    rw [pE, pE]
    cases l with
    | nil => exact kp_nil (.inr rfl)
    | cons y l => exact kp_none y l z
  | f + 1 => fun l z => by
    cases l with
    | nil =>
      rw [List.nil_append, pE_nil]
      cases z with
      | nil => exact kp_nil (.inr (pE_nil _))
      | cons y q =>
        rw [pE]
        split
        · refine kp_nil (.inl (Nat.lt_succ_of_le ?_))
          exact bind_le (pIn_le (pE_le f) q) fun _ r h => bind_le (Nat.le_trans (eat_le _ r) h) fun _ _ h => h
        · exact kk_leaf [] (y :: q)
    | cons y l =>
      rw [List.cons_append, pE, pE]
      split
      · exact (kk_in (kk_E f) (pE_nil f) (pE_le f) l z).bind (fun _ => (kk_eat _).bind (fun _ => kk_ret _) fun _ _ => Nat.le_refl _) fun _ r => bind_le (eat_le _ r) fun _ _ h => h
      · exact kk_leaf (y :: l) z
theorem pE_suf {f : Nat} {l r : List KT} {a : Option Ex} (h : pE f l = (a, r)) : ∃ p, l = p ++ r := by
  have hle := pE_le f l
  rw [h] at hle
  refine ⟨l.take (l.length - r.length), ?_⟩
  have hz : (l.drop (l.length - r.length)).length = r.length := by rw [List.length_drop]; simp only at hle; omega
  have e : l.take (l.length - r.length) ++ l.drop (l.length - r.length) = l := List.take_append_drop _ _
  have hk := kk_E f (l.take (l.length - r.length)) (l.drop (l.length - r.length))
  rw [e, h] at hk
  have : r = l.drop (l.length - r.length) := by
    cases hk with
    | far b q hq h1 h2 =>
      have h3 := congrArg (fun x : PR Ex => x.2.length) h2
      simp only [List.length_append] at h3
      have : 0 < q.length := List.length_pos_iff.2 hq
      omega
    | fits b h1 h2 => exact congrArg Prod.snd h2
    | dot b h1 hd h2 =>
      simp only at h2
      omega
    | short h1 h2 =>
      rcases h2 with h2 | h2
      · simp only at h2; omega
      · exact congrArg Prod.snd h2
  exact e.symm.trans (by rw [← this])
theorem pE_beg {f : Nat} {p r : List KT} {e : Ex} (h : pE f (p ++ r) = (some e, r)) : p ≠ [] ∧ pE f p = (some e, []) ∧ pE f p.dropLast = (none, []) ∧ ∀ z, z.head? ≠ some (sg [46]) → pE f (p ++ z) = (some e, z) := by
  have h1 : pE f p = (some e, []) := by
    have hk := kk_E f p r
    rw [h] at hk
    cases hk with
    | far b q hq h1 h2 =>
      have h3 := congrArg (fun x : PR Ex => x.2.length) h2
      simp only [List.length_append] at h3
      have : 0 < q.length := List.length_pos_iff.2 hq
      omega
    | fits b h1 h2 =>
      cases h2; exact h1
    | dot b h1 hd h2 =>
      simp only at h2
      omega
    | short h1 h2 =>
      rcases h2 with h2 | h2
      · simp only at h2; omega
      · cases h2
  have hp : p ≠ [] := by
    rintro rfl
    rw [pE_nil] at h1
    cases h1
  refine ⟨hp, h1, ?_, fun z hz => ?_⟩
  · have e1 := List.dropLast_concat_getLast hp
    have hk := kk_E f p.dropLast [p.getLast hp]
    rw [e1, h1] at hk
    cases hk with
    | far b q hq h1 h2 =>
      have h3 := congrArg (fun x : PR Ex => x.2.length) h2
      simp at h3
    | fits b h1 h2 => cases h2
    | dot b h1 hd h2 =>
      simp at h2
    | short h1 h2 => exact h1
  · have hk := kk_E f p z
    rw [h1] at hk
    cases hk with
    | far b q hq h1 h2 => cases h1; exact absurd rfl hq
    | fits b h1 h2 => cases h1; exact h2
    | dot b h1 hd h2 => exact absurd hd hz
    | short h1 h2 => cases h1
theorem pE_err {f : Nat} {p r : List KT} (h : pE f (p ++ r) = (none, r)) : pE f p = (none, []) ∧ ∀ y q, r = y :: q → pE f (p ++ [y]) = (none, [y]) := by
  constructor
  · have hk := kk_E f p r
    rw [h] at hk
    cases hk with
    | far b q hq h1 h2 =>
      have h3 := congrArg (fun x : PR Ex => x.2.length) h2
      simp only [List.length_append] at h3
      have : 0 < q.length := List.length_pos_iff.2 hq
      omega
    | fits b h1 h2 => cases h2
    | dot b h1 hd h2 =>
      simp only at h2
      omega
    | short h1 h2 => exact h1
  · rintro y q rfl
    have e : p ++ y :: q = (p ++ [y]) ++ q := by simp
    have hk := kk_E f (p ++ [y]) q
    rw [← e, h] at hk
    cases hk with
    | far b s hs h1 h2 =>
      have h3 := congrArg Prod.snd h2
      have h4 := congrArg Prod.fst h2
      simp only at h3 h4
      subst h4
      have : s = [y] := by
        have h5 : [y] ++ q = s ++ q := h3
        exact (List.append_cancel_right h5).symm
      rw [h1, this]
    | fits b h1 h2 => cases h2
    | dot b h1 hd h2 =>
      simp only [List.length_cons] at h2
      omega
    | short h1 h2 =>
      rcases h2 with h2 | h2
      · simp only [List.length_cons] at h2; omega
      · have h3 := congrArg (fun x : PR Ex => x.2.length) h2
        simp at h3
end Go.Proofs.YtnnolijagpakiaaGreatDoor
namespace Go.Proofs.YtnnolijagpakiaaGreatDoor
open Go Go.RowKit
theorem checkN_ne (k : Int) (nm mr : ByteArray) (it d : Int) (len : Nat) : checkN k nm mr it d len ≠ 3 := by
  unfold checkN namesErr rangeErr
  split
  · decide
  · repeat' split
    all_goals decide
mutual
theorem checkE_ne : ∀ t : Ex, checkE t ≠ 3
  | .mk k n m i d s => by
    rw [checkE]
    split
    · exact checkEs_ne s
    · exact checkN_ne _ _ _ _ _ _
theorem checkEs_ne : ∀ l : List Ex, checkEs l ≠ 3
  | [] => by rw [checkEs]; decide
  | e :: es => by
    rw [checkEs]
    split
    · exact checkEs_ne es
    · exact checkE_ne e
end
theorem checkX_ne (t : Ex) : checkX t ≠ 3 := by
  unfold checkX
  split
  · decide
  · exact checkE_ne t
theorem expr_none {t : List LTok} {r : List KT} (h : pE (t.length + 1) (t.map kt) = (none, r)) : exprP t = (.mk 0 ⟨#[]⟩ ⟨#[]⟩ 0 0 [], ((t.length - r.length : Nat) : Int), 3) := by unfold exprP; rw [h]
theorem expr_some {t : List LTok} {r : List KT} {e : Ex} (h : pE (t.length + 1) (t.map kt) = (some e, r)) (h0 : checkX e = 0) : exprP t = (e, ((t.length - r.length : Nat) : Int), 0) := by unfold exprP; rw [h]; exact if_pos h0
theorem pE_at {f : Nat} {l : List KT} (h : l.length < f) : pE (l.length + 1) l = pE f l := pE_fuel _ _ _ (Nat.lt_succ_self _) h
theorem take_split {t : List LTok} {p r : List KT} (h : t.map kt = p ++ r) : (t.take (t.length - r.length)).map kt = p ∧ t.length = p.length + r.length ∧ (t.drop (t.length - r.length)).map kt = r := by
  have hl : t.length = p.length + r.length := by
    have := congrArg List.length h
    rw [List.length_map, List.length_append] at this
    exact this
  have e : t.length - r.length = p.length := by omega
  rw [e, List.map_take, List.map_drop, h]
  exact ⟨List.take_left, hl, List.drop_left⟩
theorem expr_err {t : List LTok} (h : (exprP t).2.2 = 3) : ∃ n : Nat, n ≤ t.length ∧ exprP t = (.mk 0 ⟨#[]⟩ ⟨#[]⟩ 0 0 [], (n : Int), 3) ∧ exprP (t.take n) = (.mk 0 ⟨#[]⟩ ⟨#[]⟩ 0 0 [], (n : Int), 3) ∧ exprP (t.take (min (n + 1) t.length)) = (.mk 0 ⟨#[]⟩ ⟨#[]⟩ 0 0 [], (n : Int), 3) := by
  cases hp : pE (t.length + 1) (t.map kt) with
  | mk a r =>
    cases a with
    | some e =>
      exfalso
      unfold exprP at h
      rw [hp] at h
      by_cases h0 : checkX e = 0
      · simp only [if_pos h0] at h
        exact absurd h (by decide)
      · simp only [if_neg h0] at h
        exact checkX_ne e h
    | none =>
      obtain ⟨p, hs⟩ := pE_suf hp
      obtain ⟨h1, h2, h3⟩ := take_split hs
      rw [hs] at hp
      obtain ⟨e1, e2⟩ := pE_err hp
      rw [← hs] at hp
      have hn : (t.take (t.length - r.length)).length = p.length := by rw [← h1, List.length_map]
      have hpl : t.length - r.length = p.length := by omega
      have k1 : exprP (t.take (t.length - r.length)) = (.mk 0 ⟨#[]⟩ ⟨#[]⟩ 0 0 [], ((t.length - r.length : Nat) : Int), 3) := by
        rw [expr_none (r := []) (by rw [hn, h1, pE_at (f := t.length + 1) (by omega)]; exact e1), hn, hpl]; rfl
      refine ⟨t.length - r.length, by omega, expr_none hp, k1, ?_⟩
      cases r with
      | nil =>
        rw [show min (t.length - ([] : List KT).length + 1) t.length = t.length by rw [List.length_nil]; omega, List.take_length]
        exact expr_none hp
      | cons y q =>
        rw [List.length_cons] at h2
        have hm : min (t.length - (y :: q).length + 1) t.length = p.length + 1 := by rw [List.length_cons]; omega
        have h4 : (t.take (p.length + 1)).map kt = p ++ [y] := by
          rw [List.map_take, hs, show p.length + 1 = p.length + 1 from rfl, List.take_append]
          simp
          exact List.take_of_length_le (Nat.le_succ _)
        have h5 : (t.take (p.length + 1)).length = p.length + 1 := by rw [List.length_take]; omega
        rw [hm, expr_none (r := [y]) (by
          rw [h4, h5, show p.length + 1 = (p ++ [y]).length by simp, pE_at (f := t.length + 1) (by simp; omega)]
          exact e2 y q rfl), h5, hpl]
        simp
theorem expr_beg {t : List LTok} (h : (exprP t).2.2 = 0) : ∃ (n : Nat) (e : Ex), 1 ≤ n ∧ n ≤ t.length ∧ checkX e = 0 ∧ exprP t = (e, (n : Int), 0) ∧ exprP (t.take n) = (e, (n : Int), 0) ∧ exprP (t.take (n - 1)) = (.mk 0 ⟨#[]⟩ ⟨#[]⟩ 0 0 [], ((n - 1 : Nat) : Int), 3) ∧ ∀ m : List LTok, (m.map kt).head? ≠ some (sg [46]) → exprP (t.take n ++ m) = (e, (n : Int), 0) := by
  cases hp : pE (t.length + 1) (t.map kt) with
  | mk a r =>
    cases a with
    | none =>
      rw [expr_none hp] at h
      exact absurd h (show ¬ (3 : Int) = 0 by decide)
    | some e =>
      have h0 : checkX e = 0 := by
        unfold exprP at h
        rw [hp] at h
        by_cases h0 : checkX e = 0
        · exact h0
        · simp only [if_neg h0] at h
          exact absurd h h0
      obtain ⟨p, hs⟩ := pE_suf hp
      obtain ⟨h1, h2, h3⟩ := take_split hs
      rw [hs] at hp
      obtain ⟨e0, e1, e2, e3⟩ := pE_beg hp
      rw [← hs] at hp
      have hp0 : 0 < p.length := List.length_pos_iff.2 e0
      have hn : (t.take (t.length - r.length)).length = p.length := by rw [← h1, List.length_map]
      have hpl : t.length - r.length = p.length := by omega
      refine ⟨t.length - r.length, e, by omega, by omega, h0, expr_some hp h0, ?_, ?_, fun m hm => ?_⟩
      · rw [expr_some (r := []) (by rw [hn, h1, pE_at (f := t.length + 1) (by omega)]; exact e1) h0, hn, hpl]; rfl
      · have h4 : (t.take (t.length - r.length - 1)).map kt = p.dropLast := by
          rw [hpl, List.map_take, hs, List.dropLast_eq_take, List.take_append_of_le_length (by omega)]
        have h5 : (t.take (t.length - r.length - 1)).length = p.length - 1 := by rw [List.length_take]; omega
        rw [expr_none (r := []) (by
          rw [h4, h5, show p.length - 1 = p.dropLast.length by simp, pE_at (f := t.length + 1) (by simp; omega)]
          exact e2), h5, hpl]; rfl
      · have h4 : (t.take (t.length - r.length) ++ m).map kt = p ++ m.map kt := by rw [List.map_append, h1]
        have h6 : pE (p.length + m.length + 1) (p ++ m.map kt) = (some e, m.map kt) := by
          have h7 := e3 (m.map kt) hm
          have h8 : (p ++ m.map kt).length < t.length + m.length + 1 := by simp; omega
          have hk := kk_E (p.length + m.length + 1) p (m.map kt)
          have h9 : pE (p.length + m.length + 1) p = (some e, []) := by
            rw [pE_fuel (p.length + m.length + 1) (t.length + 1) p (by omega) (by omega)]; exact e1
          rw [h9] at hk
          cases hk with
          | far b s hs2 g1 g2 => cases g1; exact absurd rfl hs2
          | fits b g1 g2 => cases g1; exact g2
          | dot b g1 hd g2 => exact absurd hd hm
          | short g1 g2 => cases g1
        rw [expr_some (r := m.map kt) (by rw [h4, List.length_append, hn]; exact h6) h0, List.length_append, hn, List.length_map]
        simp only [hpl, Nat.add_sub_cancel]
end Go.Proofs.YtnnolijagpakiaaGreatDoor
namespace Go.Proofs.YtnnolijagpakiaaGreatDoor
open Go Go.RowKit
section
variable {P : Program} {A : Base P} {σ : St}
theorem opOk_min2 {o : Oper} {ats : Array TypeId} {p q : Operand} {x y : Int} (ho : o.op = .call { callee := .builtin .min, args := #[p, q], argTypes := ats }) (hp : σ.eval p = .d (.raw (.int .i64 x))) (hq : σ.eval q = .d (.raw (.int .i64 y))) :
    OpOk P A o σ σ (.d (.raw (.int .i64 (if y < x then y else x)))) := by
  refine opOk_pure fun g a w hk => ?_
  have e1 := hk.eval p
  have e2 := hk.eval q
  rw [hp] at e1
  rw [hq] at e2
  refine ⟨_, ?_, .d (.raw _)⟩
  simp only [execOp, ho, resolve, invoke, builtin, Sem.run_bind, Sem.run_pure, Result.andThen_ok, List.map_toArray, List.map_cons, List.map_nil, e1.raw_eq, e2.raw_eq, run_min_int2]
end
theorem encTs_take (t : List LTok) (n : Nat) : (encTs t).take n = encTs (t.take n) := by simp [encTs, List.map_take]
set_option maxRecDepth 100000 in
set_option maxHeartbeats 16000000 in
theorem lawErrors_c (t : List LTok) (ht : t.length ≤ 1048576) : Con Tryz.prog 7 [.d (.sl (encTs t))] (.d (.raw (.bool true))) := by
  have cg := greatT_c t ht
  have ca := awake22_c
  refine con_of Tryz.func7 rfl (by decide +kernel) rfl rfl (by simp [Tryz.ntmps7]) fun A hA => ?_
  rw [Tryz.ntmps7] at hA
  refine goC 400 ?_
  simp only [go_sem, hA]
  refine goCall 400 cg rfl (by simp only [go_sem]) (by simp only [go_sem, hA]) ?_
  cases hg : greatT t with
  | true =>
    simp only [go_sem]
    refine goCall 400 ca rfl (by simp only [go_sem]) (by simp only [go_sem, hA]) ?_
    simp only [go_sem, hA, Tryz.results7]
  | false =>
  have hlen : t.length ≤ 120 := by
    unfold greatT at hg
    simp only [Bool.or_eq_false_iff, decide_eq_false_iff_not] at hg
    omega
  have ce := pexpr_c t (by omega)
  simp only [go_sem, hA]
  refine goCall 114 ce rfl (by simp only [go_sem]) (by simp only [go_sem, hA]) ?_
  by_cases h3 : (exprP t).2.2 = 3
  case neg =>
    have g3 : (decide ¬(exprP t).2.2 = 3) = true := decide_eq_true h3
    simp only [go_sem, hA, avE_eq, g3]
    refine goCall 400 ca rfl (by simp only [go_sem]) (by simp only [go_sem, hA]) ?_
    simp only [go_sem, hA, Tryz.results7]
  obtain ⟨n, hn, e1, e2, e3⟩ := expr_err h3
  have c2 := pexpr_c (t.take n) (by rw [List.length_take]; omega)
  have c3 := pexpr_c (t.take (min (n + 1) t.length)) (by rw [List.length_take]; omega)
  rw [e2] at c2
  rw [e3] at c3
  have k1 : decide ((n : Int) < 0) = false := decide_eq_false (by omega)
  have k2 : decide ((t.length : Int) < (n : Int)) = false := decide_eq_false (by omega)
  simp only [go_sem, hA, e1, avE_ex0, encTs_length, k1, k2]
  have hm : (if (t.length : Int) < (n : Int) + 1 then (t.length : Int) else (n : Int) + 1) = ((min (n + 1) t.length : Nat) : Int) := by split <;> omega
  have hk : min (n + 1) t.length ≤ t.length := Nat.min_le_right _ _
  generalize hkm : min (n + 1) t.length = m at hm hk c3
  refine ⟨by unfold inI64; omega, goStep 100 (by rfl) (opOk_min2 rfl rfl rfl) (by simp only [go_sem, hA]) ?_⟩
  rw [hm]
  simp only [go_sem, hA, encTs_length, Int.toNat_natCast, encTs_take]
  refine ⟨⟨encTs_row t, by omega, by omega⟩, ?_⟩
  refine goCall 400 c3 rfl (by simp only [go_sem]) (by simp only [go_sem, hA]) ?_
  simp only [go_sem, hA, avE_ex0, encTs_length, Int.toNat_natCast, encTs_take]
  refine ⟨⟨encTs_row t, by omega, by omega⟩, ?_⟩
  refine goCall 400 c2 rfl (by simp only [go_sem]) (by simp only [go_sem, hA]) ?_
  have k3 : decide ((n : Int) = (n : Int)) = true := decide_eq_true rfl
  simp only [go_sem, hA, avE_ex0]
  refine goCall 400 ca rfl (by simp only [go_sem]) (by simp only [go_sem, hA]) ?_
  simp only [go_sem, hA, Tryz.results7]
end Go.Proofs.YtnnolijagpakiaaGreatDoor
