/- Texts of this proof, part 26: what the proof uses of them. -/
import Derived.Test.YtnnolijagpakiaaGreatDoorQay
import Derived.Test.YtnnolijagpakiaaGreatDoorQao
import Derived.Test.YtnnolijagpakiaaGreatDoorQap
import Derived.Test.YtnnolijagpakiaaGreatDoorQax
namespace Go.Proofs.YtnnolijagpakiaaGreatDoor
section
open Go Go.RowKit
theorem postSo_cases {t : List LTok} {x : PR (Sr × List Nat)} {o : Out} (h : postTry (postSo t x) o) : (∃ e s', x = (some e, restK s') ∧ o = .ret (.tup [.d (.raw (.int .i64 0)), .d (.raw (.int .i64 0))]) (exL s' (srB e.1)) ∧ Rdy s' t) ∨ ∃ r, x = (none, r) ∧ o = .ret (.tup [.d (.raw (.int .i64 (t.length - r.length : Nat))), .d (.raw (.int .i64 3))]) ⟨[], []⟩ := by
 obtain ⟨a, r⟩ := x
 cases a with
 | some e =>
  left
  rcases h with ⟨res, L', h1, s', h2, h3, rfl⟩ | ⟨n, h1, s', h2, _⟩
  ·cases h2
   exact ⟨e, s', rfl, h1, h3⟩
  ·cases h2
 | none =>
  right
  rcases h with ⟨res, L', h1, h2⟩ | ⟨n, h1, h2⟩
  ·cases h2
  ·injection h2 with h2
   injection h2 with _ h2
   injection h2 with h2
   simp only [Array.mk.injEq, List.cons.injEq, Value.int.injEq, true_and, and_true] at h2
   subst h2
   exact ⟨r, rfl, h1⟩
theorem postSo_pan {t : List LTok} {x : PR (Sr × List Nat)} (v : Value) (h : postSo t x (.pan v)) : ∃ n, v = pvF n := by
 obtain ⟨a, r⟩ := x
 cases a with
 | some e =>
  obtain ⟨s', h, _⟩ := h
  cases h
 | none =>
  injection h with h
  exact ⟨_, h⟩
theorem avS0 : avS ⟨[], []⟩ = .agg [.d (.sl []), .d (.sl [])] := rfl
set_option maxRecDepth 100000 in
set_option maxHeartbeats 8000000 in
theorem psource_c (t : List LTok) (ht : t.length ≤ 524288) : Con Tryz.prog 19 [.d (.sl (encTs t))] (.tup [avS (srcP t).1, .d (.raw (.int .i64 (srcP t).2))]) := by
 refine con_ofX Tryz.func19 rfl (by decide +kernel) rfl rfl (by simp [Tryz.ntmps19]) fun A hA hX => ?_
 rw [Tryz.ntmps19] at hA
 refine goC 22 ?_
 simp only [go_sem, hA]
 refine goAs 901 0 (by simp only [go_sem]) (by simp only [go_sem]; rfl) trivial (hX 901) rfl (by simp only [go_sem, hA]) ?_
 simp only [go_sem]
 refine goAs 902 8 (by simp only [go_sem]) (by simp only [go_sem]; rfl) trivial (hX 902) rfl (by simp only [go_sem, hA]) ?_
 simp only [go_sem]
 refine goAs 904 2 (by simp only [go_sem]) (by simp only [go_sem]; rfl) trivial (hX 904) rfl (by simp only [go_sem, hA]) ?_
 simp only [go_sem]
 refine satC_stkCell 910 901 2 11 0 120 (hX 910) rfl rfl rfl ?_
 refine satC_stkCell 911 901 3 1 0 9 (hX 911) rfl rfl rfl ?_
 refine satC_stkCell 912 901 4 1 0 3 (hX 912) rfl rfl rfl ?_
 refine satC_stkCell 913 901 5 6 0 36 (hX 913) rfl rfl rfl ?_
 refine goMid 100600 [0, 2, 3, 4, 5, 6, 7] [0, 901, 902, 904] [910, 911, 912, 913] (fun σ => ∃ e s', pSrc (t.length + 1) (t.map kt) = (some e, restK s') ∧ Rdy s' t ∧ σ = (⟨[(0, .d (.sl (encTs t))), (2, .box 0 0), (3, .d (.raw (.int .i64 0))), (4, .box 902 0), (5, .box 904 0), (6, .d (.raw (.int .i64 0))), (7, .d (.raw (.int .i64 0)))], [(0, some srZ), (901, some (rdBlk s')), (902, some rBox), (904, some (srB e.1))], (rdL s').toks⟩ : St)) ?_ ?_
 ·simp only [go_sem, hA]
  refine goCallL [901, 902, 904] [910, 911, 912, 913] 100600 (try_con (source1_c hN hM hI (rs0 t) t (rdy0 t (by omega))) postSo_pan) rfl rfl rfl rfl rfl (by simp only [go_sem, hA]) (fun res L' h => ?_) (fun pv h => ?_)
  rotate_left
  ·rcases h with ⟨_, _, h, _⟩ | ⟨_, h, _⟩ <;> cases h
  rcases postSo_cases h with ⟨e, s', e1, h, hS⟩ | ⟨r, e1, h⟩
  ·cases h
   simp only [go_sem, hA]
   exact ⟨e, s', e1, hS, rfl⟩
  ·cases h
   have hx : srcP t = (⟨[], []⟩, 3) := by unfold srcP; rw [show pSrc (t.length + 1) (t.map kt) = (none, r) from e1]
   simp only [go_sem, hA, ne30, hx, avS0, Tryz.results19]
 rintro σ ⟨⟨x, ps⟩, s', e1, hS, rfl⟩
 have hfew := src_few e1
 rw [List.length_map] at hfew
 refine goC 300 ?_
 simp only [go_sem, hA]
 refine goCall 300 (ssource_c x (fun d hd => Nat.le_trans (hfew d hd) ht)) rfl (by simp only [go_sem, avS]) (by simp only [go_sem, hA]) ?_
 by_cases h0 : srcX sdeclX x = 0
 ·have hx : srcP t = (x, 0) := by unfold srcP; rw [e1]; exact if_pos h0
  simp only [go_sem, hA, h0, hx, avS, Tryz.results19]
 ·have hx : srcP t = (⟨[], []⟩, srcX sdeclX x) := by unfold srcP; rw [e1]; exact if_neg h0
  have g0 : (decide ¬srcX sdeclX x = 0) = true := decide_eq_true h0
  simp only [go_sem, hA, g0, hx, avS0, Tryz.results19]
end
section
open Go Go.RowKit
abbrev un1St (x : Sr) (q : Nat) : St := ⟨[(1, .box 0 0), (2, .d (.raw (.int .i64 0))), (3, .d (.raw (.int .i64 q)))], [(0, some (srB x))], []⟩
abbrev un2St (x : Sr) (q : Nat) : St := ⟨[(1, .box 0 0), (2, .d (.raw (.int .i64 0))), (4, .d (.raw (.int .i64 q)))], [(0, some (srB x))], []⟩
abbrev plF (l : List Dc) : Nat → Int := fun q => if misplaced l q then (q : Int) else 0
theorem plF_hit {l : List Dc} {q : Nat} (h : firstN (plF l) q = 0) (hq : q < l.length) (hm : misplaced l q = true) : placeX l = q ∧ ¬ (q : Int) = 0 := by
 have h0 : ¬ (q : Int) = 0 := by
  unfold misplaced at hm
  simp only [Bool.and_eq_true, decide_eq_true_eq] at hm
  omega
 have e : plF l q = q := if_pos hm
 have := firstN_hit (n := l.length) h hq (by rw [e]; exact h0)
 exact ⟨this.trans e, h0⟩
set_option maxRecDepth 100000 in
set_option maxHeartbeats 16000000 in
theorem unordered_c (x : Sr) (hl : x.uses.length ≤ 1048576) (hd : x.decls.length ≤ 1048576) : Con Tryz.prog 30 [avS x] (.d (.raw (.int .i64 (unordX x)))) := by
 refine con_of Tryz.func30 rfl (by decide +kernel) rfl rfl (by simp [Tryz.ntmps30]) fun A hA => ?_
 rw [Tryz.ntmps30] at hA
 refine goMid 300 [1, 2] [0] [] (fun σ => σ = (⟨[(1, .box 0 0), (2, .d (.raw (.int .i64 0)))], [(0, some (srB x))], []⟩ : St)) (by simp only [go_sem, hA, avS]) ?_
 rintro σ rfl
 refine goMid 100600 [1, 2] [0] [] (fun σ => firstN (usesBad x.uses) x.uses.length = 0 ∧ σ = (⟨[(1, .box 0 0), (2, .d (.raw (.int .i64 0)))], [(0, some (srB x))], []⟩ : St)) ?_ ?_
 ·simp only [go_sem, hA]
  refine satC_loop [1, 2, 3] [0] [] (fun y σ => ∃ q : Nat, 1 ≤ q ∧ (q ≤ x.uses.length ∨ q = 1) ∧ y = x.uses.length + 1 - q ∧ firstN (usesBad x.uses) q = 0 ∧ σ = un1St x q) x.uses.length ⟨1, by omega, .inr rfl, by omega, by rfl, rfl⟩ ?_
  rintro y σ ⟨q, hq1, hq, rfl, hf, rfl⟩
  refine goC 400 ?_
  by_cases hlt : q < x.uses.length
  ·have k1 : decide ((q : Int) < (x.uses.length : Int)) = true := decide_eq_true (by omega)
   have hq2 : ((q : Int) - 1).toNat = q - 1 := by omega
   have hat := atB_get x.uses q hlt
   have hat1 := atB_get x.uses (q - 1) (by omega)
   have hin : inI64 ((q : Int) - 1) := by unfold inI64; omega
   have hw : IntKind.i64.wrap ((q : Int) - 1) = (q : Int) - 1 := wrapI64 hin
   cases hls : ltS x.uses[q - 1] x.uses[q] with
   | false =>
    have hls' : Op.bytesLess x.uses[q - 1].data.toList x.uses[q].data.toList = false := hls
    have hb : usesBad x.uses q = 1 := by unfold usesBad; rw [hat, hat1]; exact if_pos ⟨by omega, hls⟩
    have hn : firstN (usesBad x.uses) x.uses.length = 1 := by rw [firstN_hit hf hlt (by rw [hb]; decide), hb]
    have hr : unordX x = -1 := by unfold unordX; rw [hn]; rfl
    simp only [go_sem, hA, encS_length, k1, hq2, Int.toNat_natCast, encS_at x.uses q hlt, encS_at x.uses (q - 1) (by omega), hls', hr, mixed, Tryz.results30]
    exact ⟨hin, ⟨by omega, by omega⟩, ⟨by omega, by omega⟩, by show chk _ _ _ = true; kernel_rfl⟩
   | true =>
    have hls' : Op.bytesLess x.uses[q - 1].data.toList x.uses[q].data.toList = true := hls
    have hb : usesBad x.uses q = 0 := by unfold usesBad; rw [hat, hat1]; exact if_neg fun h => by rw [hls] at h; cases h.2
    simp only [go_sem, hA, encS_length, k1, hq2, Int.toNat_natCast, encS_at x.uses q hlt, encS_at x.uses (q - 1) (by omega), hls', mixed]
    exact ⟨hin, ⟨by omega, by omega⟩, ⟨by omega, by omega⟩, by show chk _ _ _ = true; kernel_rfl, by unfold inI64; omega, x.uses.length + 1 - (q + 1), by omega, q + 1, by omega, .inl (by omega), rfl, firstN_step hf hb, rfl⟩
  ·have k1 : decide ((q : Int) < (x.uses.length : Int)) = false := decide_eq_false (by omega)
   have hz : firstN (usesBad x.uses) x.uses.length = 0 := by
    rcases hq with hq | hq
    ·obtain rfl : q = x.uses.length := by omega
     exact hf
    ·subst hq
     rcases Nat.lt_or_ge x.uses.length 1 with h | h
     ·rw [show x.uses.length = 0 by omega]; rfl
     ·rw [show x.uses.length = 1 by omega]; exact hf
   simp only [go_sem, hA, encS_length, k1]
   exact hz
 rintro σ ⟨hz, rfl⟩
 have hu : unordX x = if placeX x.decls = 0 then -1 else placeX x.decls := by unfold unordX; rw [hz]; rfl
 refine goC 400 ?_
 simp only [go_sem, hA]
 refine satC_loop [1, 2, 4] [0] [] (fun y σ => ∃ q : Nat, 1 ≤ q ∧ (q ≤ x.decls.length ∨ q = 1) ∧ y = x.decls.length + 1 - q ∧ firstN (plF x.decls) q = 0 ∧ σ = un2St x q) x.decls.length ⟨1, by omega, .inr rfl, by omega, by unfold firstN plF misplaced; rfl, rfl⟩ ?_
 rintro y σ ⟨q, hq1, hq, rfl, hf, rfl⟩
 refine goC 400 ?_
 by_cases hlt : q < x.decls.length
 case neg =>
  have k1 : decide ((q : Int) < (x.decls.length : Int)) = false := decide_eq_false (by omega)
  have hz : placeX x.decls = 0 := by
   show firstN (plF x.decls) x.decls.length = 0
   rcases hq with hq | hq
   ·obtain rfl : q = x.decls.length := by omega
    exact hf
   ·subst hq
    rcases Nat.lt_or_ge x.decls.length 1 with h | h
    ·rw [show x.decls.length = 0 by omega]; rfl
    ·rw [show x.decls.length = 1 by omega]; exact hf
  have hr : unordX x = -1 := by rw [hu, if_pos hz]
  simp only [go_sem, hA, encDs_length, k1, hr, Tryz.results30]
 have k1 : decide ((q : Int) < (x.decls.length : Int)) = true := decide_eq_true (by omega)
 have hq2 : ((q : Int) - 1).toNat = q - 1 := by omega
 have hat := atD_get x.decls q hlt
 have hat1 := atD_get x.decls (q - 1) (by omega)
 have hin : inI64 ((q : Int) - 1) := by unfold inI64; omega
 have hm : misplaced x.decls q = (decide (¬ x.decls[q].id = 0) && (decide (x.decls[q - 1].id = 0) || decide (x.decls[q].id ≤ x.decls[q - 1].id))) := by
  unfold misplaced; rw [hat, hat1, decide_eq_true (show 0 < q by omega), Bool.true_and]
 have hgo : misplaced x.decls q = false → firstN (plF x.decls) (q + 1) = 0 := fun h => firstN_step hf (by unfold plF; rw [h]; rfl)
 have hhit : misplaced x.decls q = true → unordX x = q := fun h => by
  obtain ⟨e1, e2⟩ := plF_hit hf hlt h
  rw [hu, e1, if_neg e2]
 have hd1 := encDs_at x.decls q hlt
 have hd2 := encDs_at x.decls (q - 1) (by omega)
 by_cases h1 : x.decls[q].id = 0
 ·have g1 : (decide ¬ x.decls[q].id = 0) = false := decide_eq_false (by simpa using h1)
  have hz := hgo (by rw [hm, g1]; rfl)
  simp only [go_sem, hA, encDs_length, k1, Int.toNat_natCast, hd1, encD, g1, undef, mixed]
  exact ⟨⟨by omega, by omega⟩, by show chk _ _ _ = true; kernel_rfl, by unfold inI64; omega, x.decls.length + 1 - (q + 1), by omega, q + 1, by omega, .inl (by omega), rfl, hz, rfl⟩
 ·have g1 : (decide ¬ x.decls[q].id = 0) = true := decide_eq_true h1
  by_cases h2 : x.decls[q - 1].id = 0
  ·have g2 : decide (x.decls[q - 1].id = 0) = true := decide_eq_true h2
   have hr := hhit (by rw [hm, g1, g2]; rfl)
   simp only [go_sem, hA, encDs_length, k1, hq2, Int.toNat_natCast, hd1, hd2, encD, g1, g2, undef, hr, mixed, Tryz.results30]
   exact ⟨⟨by omega, by omega⟩, hin, ⟨by omega, by omega⟩, by show chk _ _ _ = true; kernel_rfl⟩
  ·have g2 : decide (x.decls[q - 1].id = 0) = false := decide_eq_false h2
   cases h3 : decide (x.decls[q].id ≤ x.decls[q - 1].id) with
   | true =>
    have hr := hhit (by rw [hm, g1, g2, h3]; rfl)
    simp only [go_sem, hA, encDs_length, k1, hq2, Int.toNat_natCast, hd1, hd2, encD, g1, g2, h3, hr, mixed, Tryz.results30]
    exact ⟨⟨by omega, by omega⟩, hin, ⟨by omega, by omega⟩, hin, ⟨by omega, by omega⟩, ⟨by omega, by omega⟩, by show chk _ _ _ = true; kernel_rfl⟩
   | false =>
    have hz := hgo (by rw [hm, g1, g2, h3]; rfl)
    simp only [go_sem, hA, encDs_length, k1, hq2, Int.toNat_natCast, hd1, hd2, encD, g1, g2, h3, mixed]
    exact ⟨⟨by omega, by omega⟩, hin, ⟨by omega, by omega⟩, hin, ⟨by omega, by omega⟩, ⟨by omega, by omega⟩, by show chk _ _ _ = true; kernel_rfl, by unfold inI64; omega, x.decls.length + 1 - (q + 1), by omega, q + 1, by omega, .inl (by omega), rfl, hz, rfl⟩
end
section
open Go Go.RowKit
theorem postPa_cases {t : List LTok} {x : PR (Sr × List Nat)} {o : Out} (h : postTry (postPa t x) o) : (∃ e s', x = (some e, restK s') ∧ o = .ret (.tup [.d (.raw (.int .i64 0)), .d (.raw (.int .i64 0))]) (paL s' (srB e.1) (iB t e.2)) ∧ Rdy s' t) ∨ ∃ r, x = (none, r) ∧ o = .ret (.tup [.d (.raw (.int .i64 (t.length - r.length : Nat))), .d (.raw (.int .i64 3))]) ⟨[], []⟩ := by
 obtain ⟨a, r⟩ := x
 cases a with
 | some e =>
  left
  rcases h with ⟨res, L', h1, s', h2, h3, rfl⟩ | ⟨n, h1, s', h2, _⟩
  ·cases h2
   exact ⟨e, s', rfl, h1, h3⟩
  ·cases h2
 | none =>
  right
  rcases h with ⟨res, L', h1, h2⟩ | ⟨n, h1, h2⟩
  ·cases h2
  ·injection h2 with h2
   injection h2 with _ h2
   injection h2 with h2
   simp only [Array.mk.injEq, List.cons.injEq, Value.int.injEq, true_and, and_true] at h2
   subst h2
   exact ⟨r, rfl, h1⟩
theorem postPa_pan {t : List LTok} {x : PR (Sr × List Nat)} (v : Value) (h : postPa t x (.pan v)) : ∃ n, v = pvF n := by
 obtain ⟨a, r⟩ := x
 cases a with
 | some e =>
  obtain ⟨s', h, _⟩ := h
  cases h
 | none =>
  injection h with h
  exact ⟨_, h⟩
theorem pDecls_le (f : Nat) : ∀ (g : Nat) (l : List KT), (pDecls f g l).2.length ≤ l.length
 | 0, [] => Nat.le_refl _
 | _ + 1, [] => Nat.le_refl _
 | 0, y :: r => Nat.le_refl _
 | g + 1, y :: r => by
  rw [pDecls]
  exact bind_le (pDecl_le f (y :: r)) fun _ q h => bind_le (Nat.le_trans (pDecls_le f g q) h) fun _ _ h => h
theorem pSrc_le (f : Nat) (l : List KT) : (pSrc f l).2.length ≤ l.length := bind_le (pUses_le f l) fun _ q h => bind_le (Nat.le_trans (pDecls_le f f q) h) fun _ _ h => h
theorem uses_len : ∀ (f : Nat) (l r : List KT) (us : List ByteArray), pUses f l = (some us, r) → us.length + r.length ≤ l.length
 | 0, l, r, us, h => by cases h; simp
 | f + 1, l, r, us, h => by
  rw [pUses] at h
  split at h
  ·obtain ⟨a, q, h1, h⟩ := bind_get h
   obtain ⟨u, q2, h2, h⟩ := bind_get h
   obtain ⟨vs, q3, h3, h⟩ := bind_get h
   cases h
   have e1 := pLab_le l.tail
   rw [h1] at e1
   have e2 := eat_few h2
   have e3 := uses_len f _ _ _ h3
   simp only [List.length_tail] at e1
   rw [List.length_cons]
   omega
  ·cases h; simp
theorem decls_len (f : Nat) : ∀ (g : Nat) (l r : List KT) (ds : List (Dc × Nat)), pDecls f g l = (some ds, r) → ds.length + r.length ≤ l.length
 | 0, [], r, ds, h => by cases h; simp
 | _ + 1, [], r, ds, h => by cases h; simp
 | 0, y :: l, r, ds, h => by cases h
 | g + 1, y :: l, r, ds, h => by
  rw [pDecls] at h
  obtain ⟨d, q, h1, h⟩ := bind_get h
  obtain ⟨es, q2, h2, h⟩ := bind_get h
  cases h
  have e1 := pDecl_len h1
  have e2 := decls_len f g _ _ _ h2
  rw [List.length_cons]
  omega
theorem src_lens {f : Nat} {l r : List KT} {x : Sr} {ps : List Nat} (h : pSrc f l = (some (x, ps), r)) : x.uses.length ≤ l.length ∧ x.decls.length ≤ l.length := by
 unfold pSrc at h
 obtain ⟨us, q, h1, h⟩ := bind_get h
 obtain ⟨ds, q2, h2, h⟩ := bind_get h
 cases h
 have e1 := uses_len _ _ _ _ h1
 have e2 := decls_len _ _ _ _ _ h2
 simp only [List.length_map]
 omega
set_option maxRecDepth 100000 in
set_option maxHeartbeats 16000000 in
theorem pparse_c (s : ByteArray) : Con Tryz.prog 12 [.d (.raw (.string s))] (.tup [avS (parseP s).1, .d (.raw (.int .i64 (parseP s).2.1)), .d (.raw (.int .i64 (parseP s).2.2))]) := by
 obtain ⟨b1, b2, b3, b4, b5, b6⟩ := scan_bound s
 have csc := scan_c s
 have hP : parseP s = if ¬ (scanX s).2.2 = 0 then (sr0, (scanX s).2.1, (scanX s).2.2) else
   match pSrc ((scanX s).1.length + 1) ((scanX s).1.map kt) with
   | (none, r) => (sr0, if r.length = 0 then (s.size : Int) else posT (scanX s).1 ((scanX s).1.length - r.length), 3)
   | (some x, _) => if srcX sdeclX x.1 = 0 then (x.1, 0, 0) else if srcX sdeclX x.1 = 10 ∧ 0 ≤ unordX x.1 then (sr0, posT (scanX s).1 ((scanX s).1.length - x.2.getD (unordX x.1).toNat 0), 10) else (sr0, 0, srcX sdeclX x.1) := rfl
 generalize parseP s = R at hP ⊢
 obtain ⟨t, p, c, hx⟩ : ∃ t p c, scanX s = (t, p, c) := ⟨_, _, _, rfl⟩
 rw [hx] at b1 b2 b3 b4 b5 b6 csc hP
 simp only at b1 b2 b3 b4 b5 b6 csc hP
 refine con_ofX Tryz.func12 rfl (by decide +kernel) rfl rfl (by simp [Tryz.ntmps12]) fun A hA hX => ?_
 rw [Tryz.ntmps12] at hA
 refine goMid 300 [0, 2, 3, 4] [0] [] (fun σ => σ = (⟨[(0, .d (.raw (.string s))), (2, .box 0 0), (3, .d (.raw (.int .i64 0))), (4, .d (.raw (.int .i64 0)))], [(0, some srZ)], []⟩ : St)) (by simp only [go_sem, hA]) ?_
 rintro σ rfl
 refine goMid 300 [0, 2, 3, 4, 5, 6, 7] [0] [] (fun σ => σ = (⟨[(0, .d (.raw (.string s))), (2, .box 0 0), (3, .d (.raw (.int .i64 0))), (4, .d (.raw (.int .i64 0))), (5, .d (.sl (encTs t))), (6, .d (.raw (.int .i64 p))), (7, .d (.raw (.int .i64 c)))], [(0, some srZ)], []⟩ : St)) ?_ ?_
 ·simp only [go_sem, hA]
  refine goCall 300 csc rfl (by simp only [go_sem]) (by simp only [go_sem, hA]) ?_
  simp only [go_sem, hA]
 rintro σ rfl
 refine goMid 300 [0, 2, 3, 4, 5] [0] [] (fun σ => c = 0 ∧ σ = (⟨[(0, .d (.raw (.string s))), (2, .box 0 0), (3, .d (.raw (.int .i64 0))), (4, .d (.raw (.int .i64 0))), (5, .d (.sl (encTs t)))], [(0, some srZ)], []⟩ : St)) ?_ ?_
 ·by_cases hc : c = 0
  ·have g0 : (decide ¬c = 0) = false := decide_eq_false (by simpa using hc)
   simp only [go_sem, hA, g0]
   exact hc
  ·have g0 : (decide ¬c = 0) = true := decide_eq_true hc
   rw [if_pos hc] at hP
   simp only [go_sem, hA, g0, hP, avS0, Tryz.results12]
 rintro σ ⟨rfl, rfl⟩
 rw [if_neg (by simp)] at hP
 refine goC 10 ?_
 simp only [go_sem, hA]
 refine goAs 901 0 (by simp only [go_sem]) (by simp only [go_sem]; rfl) trivial (hX 901) rfl (by simp only [go_sem, hA]) ?_
 simp only [go_sem]
 refine goAs 902 8 (by simp only [go_sem]) (by simp only [go_sem]; rfl) trivial (hX 902) rfl (by simp only [go_sem, hA]) ?_
 simp only [go_sem]
 refine goAs 904 4 (by simp only [go_sem]) (by simp only [go_sem]; rfl) trivial (hX 904) rfl (by simp only [go_sem, hA]) ?_
 simp only [go_sem]
 refine goAs 905 2 (by simp only [go_sem]) (by simp only [go_sem]; rfl) trivial (hX 905) rfl (by simp only [go_sem, hA]) ?_
 simp only [go_sem]
 refine satC_stkCell 910 901 2 11 0 120 (hX 910) rfl rfl rfl ?_
 refine satC_stkCell 911 901 3 1 0 9 (hX 911) rfl rfl rfl ?_
 refine satC_stkCell 912 901 4 1 0 3 (hX 912) rfl rfl rfl ?_
 refine satC_stkCell 913 901 5 6 0 36 (hX 913) rfl rfl rfl ?_
 refine goMid 100600 [0, 2, 3, 4, 5, 9, 10, 11, 12] [0, 901, 902, 904, 905] [910, 911, 912, 913] (fun σ => ∃ e s', pSrc (t.length + 1) (t.map kt) = (some e, restK s') ∧ Rdy s' t ∧ σ = (⟨[(0, .d (.raw (.string s))), (2, .box 0 0), (3, .d (.raw (.int .i64 0))), (4, .d (.raw (.int .i64 0))), (5, .d (.sl (encTs t))), (9, .box 904 0), (10, .box 905 0), (11, .d (.raw (.int .i64 0))), (12, .d (.raw (.int .i64 0)))], [(0, some srZ), (901, some (rdBlk s')), (902, some rBox), (904, some (srB e.1)), (905, some (iB t e.2))], (rdL s').toks⟩ : St)) ?_ ?_
 ·simp only [go_sem, hA]
  refine goCallL [901, 902, 904, 905] [910, 911, 912, 913] 300 (try_con (parse1_c hN hM hI (rs0 t) t (rdy0 t (by omega))) postPa_pan) rfl rfl rfl rfl rfl (by simp only [go_sem, hA]) (fun res L' h => ?_) (fun pv h => ?_)
  rotate_left
  ·rcases h with ⟨_, _, h, _⟩ | ⟨_, h, _⟩ <;> cases h
  rcases postPa_cases h with ⟨e, s', e1, h, hS⟩ | ⟨r, e1, h⟩
  ·cases h
   simp only [go_sem, hA]
   exact ⟨e, s', e1, hS, rfl⟩
  ·cases h
   rw [show pSrc (t.length + 1) (t.map kt) = (none, r) from e1] at hP
   simp only at hP
   have hr : r.length ≤ t.length := by
    have h1 := pSrc_le (t.length + 1) (t.map kt)
    rw [show pSrc (t.length + 1) (t.map kt) = (none, r) from e1, List.length_map] at h1
    exact h1
   by_cases h0 : r.length = 0
   ·have g1 : decide (((t.length - r.length : Nat) : Int) = (t.length : Int)) = true := decide_eq_true (by omega)
    rw [if_pos h0] at hP
    simp only [go_sem, hA, ne30, encTs_length, g1, hP, avS0, Tryz.results12]
   ·have g1 : decide (((t.length - r.length : Nat) : Int) = (t.length : Int)) = false := decide_eq_false (by omega)
    rw [if_neg h0] at hP
    have hlt : t.length - r.length < t.length := by omega
    have hat := encTs_at t (t.length - r.length) hlt
    have hpos : posT t (t.length - r.length) = t[t.length - r.length].pos := by unfold posT; rw [List.getD_eq_getElem?_getD, List.getElem?_eq_getElem hlt]; rfl
    rw [hpos] at hP
    simp only [go_sem, hA, ne30, encTs_length, g1, hP, avS0, Int.toNat_natCast, hat, encT, mixed, Tryz.results12]
    exact ⟨⟨by omega, by omega⟩, by show chk _ _ _ = true; kernel_rfl⟩
 rintro σ ⟨⟨x, ps⟩, s', e1, hS, rfl⟩
 have hfew := src_few e1
 obtain ⟨hpl, hpa⟩ := src_at e1
 rw [List.length_map] at hfew hpa
 rw [e1] at hP
 simp only at hP
 refine goC 300 ?_
 simp only [go_sem, hA]
 refine goCall 300 (ssource_c x (fun d hd => Nat.le_trans (hfew d hd) (by omega))) rfl (by simp only [go_sem, avS]) (by simp only [go_sem, hA]) ?_
 by_cases h0 : srcX sdeclX x = 0
 ·rw [if_pos h0] at hP
  simp only [go_sem, hA, h0, hP, avS, Tryz.results12]
 have g0 : (decide ¬srcX sdeclX x = 0) = true := decide_eq_true h0
 rw [if_neg h0] at hP
 simp only [go_sem, hA, g0]
 obtain ⟨hl1, hl2⟩ := src_lens e1
 rw [List.length_map] at hl1 hl2
 refine goCall 300 (unordered_c x (by omega) (by omega)) rfl (by simp only [go_sem, avS]) (by simp only [go_sem, hA]) ?_
 obtain ⟨hu1, hu2⟩ := unord_lt x
 by_cases h10 : srcX sdeclX x = 10
 ·have g1 : decide (srcX sdeclX x = 10) = true := decide_eq_true h10
  by_cases hi : 0 ≤ unordX x
  ·rw [if_pos ⟨h10, hi⟩] at hP
   obtain ⟨i, hi2⟩ : ∃ i : Nat, unordX x = i := ⟨(unordX x).toNat, by omega⟩
   have hlt : i < ps.length := by have := (hu2 hi).2; omega
   have hn := hpa _ (List.getElem_mem hlt)
   rw [hi2, Int.toNat_natCast, List.getD_eq_getElem?_getD, List.getElem?_eq_getElem hlt, Option.getD_some] at hP
   have g2 : decide ((0 : Int) ≤ (i : Int)) = true := decide_eq_true (by omega)
   have q2 : (encIs (ps.map (plN t))).getD i [] = [.raw (.int .i64 ((t.length - ps[i] : Nat) : Int))] := by
    simp [encIs, List.getD_eq_getElem?_getD, hlt, plN]
   have hl : (encIs (ps.map (plN t))).length = ps.length := by simp [encIs]
   have hlt2 : t.length - ps[i] < t.length := by omega
   have hat := encTs_at t (t.length - ps[i]) hlt2
   have hpos : posT t (t.length - ps[i]) = t[t.length - ps[i]].pos := by unfold posT; rw [List.getD_eq_getElem?_getD, List.getElem?_eq_getElem hlt2]; rfl
   rw [hpos] at hP
   simp only [go_sem, hA, g2, hi2, h10, hP, avS0, encTs_length, hl, Int.toNat_natCast, q2, hat, encT, mixed, Tryz.results12]
   exact ⟨⟨by omega, by omega⟩, ⟨by omega, by omega⟩, by show chk _ _ _ = true; kernel_rfl⟩
  ·rw [if_neg fun h => hi h.2] at hP
   have g2 : decide ((0 : Int) ≤ unordX x) = false := decide_eq_false hi
   simp only [go_sem, hA, g1, g2, hP, avS0, Tryz.results12]
 ·have g1 : decide (srcX sdeclX x = 10) = false := decide_eq_false h10
  rw [if_neg fun h => h10 h.1] at hP
  simp only [go_sem, hA, g1, hP, avS0, undef, Tryz.results12]
end
section
open Go Go.RowKit
def greatT (t : List LTok) : Bool := t.any (fun x => decide (40 < x.text.length)) || decide (120 < t.length)
abbrev gtSt (t : List LTok) (q : Nat) : St := ⟨[(0, .d (.sl (encTs t))), (3, .d (.raw (.int .i64 q)))], [], []⟩
set_option maxRecDepth 100000 in
set_option maxHeartbeats 8000000 in
theorem greatT_c (t : List LTok) (hb : t.length ≤ 1048576) : Con Tryz.prog 15 [.d (.sl (encTs t))] (.d (.raw (.bool (greatT t)))) := by
 refine con_of Tryz.func15 rfl (by decide +kernel) rfl rfl (by simp [Tryz.ntmps15]) fun A hA => ?_
 rw [Tryz.ntmps15] at hA
 refine goC 400 ?_
 simp only [go_sem, hA]
 refine satC_loop [0, 3] [] [] (fun y σ => ∃ q : Nat, q ≤ t.length ∧ y = t.length - q ∧ ((t.take q).any fun x => decide (40 < x.text.length)) = false ∧ σ = gtSt t q) t.length ⟨0, by omega, by omega, rfl, by simp only [go_sem, gtSt]⟩ ?_
 rintro y σ ⟨q, hq, rfl, hf, rfl⟩
 refine goC 400 ?_
 by_cases hlt : q < t.length
 ·have k1 : decide ((q : Int) < (t.length : Int)) = true := decide_eq_true (by omega)
  have hat := encTs_at t q hlt
  have hsz : (⟨t[q].text.toArray⟩ : ByteArray).size = t[q].text.length := by show t[q].text.toArray.size = _; simp
  by_cases h2 : 40 < t[q].text.length
  ·have k2 : decide ((40 : Int) < (t[q].text.length : Int)) = true := decide_eq_true (by omega)
   have he : greatT t = true := by unfold greatT; rw [any_hit hlt (decide_eq_true h2)]; rfl
   simp only [go_sem, hA, gtSt, encTs_length, k1, Int.toNat_natCast, hat, encT, hsz, k2, he, Tryz.results15]
   exact ⟨by omega, by omega⟩
  ·have k2 : decide ((40 : Int) < (t[q].text.length : Int)) = false := decide_eq_false (by omega)
   simp only [go_sem, hA, gtSt, encTs_length, k1, Int.toNat_natCast, hat, encT, hsz, k2]
   exact ⟨⟨by omega, by omega⟩, by unfold inI64; omega, t.length - (q + 1), by omega, q + 1, by omega, rfl, any_step hlt hf (decide_eq_false h2), rfl⟩
 ·have k1 : decide ((q : Int) < (t.length : Int)) = false := decide_eq_false (by omega)
  obtain rfl : q = t.length := by omega
  rw [List.take_length] at hf
  have he : greatT t = decide ((120 : Int) < (t.length : Int)) := by
   unfold greatT
   rw [hf, Bool.false_or, Bool.eq_iff_iff, decide_eq_true_eq, decide_eq_true_eq]; omega
  simp only [go_sem, hA, gtSt, encTs_length, k1, he, Tryz.results15]
abbrev aw1 : ByteArray := ⟨#[108, 101, 116, 32, 102, 32, 61, 32, 40, 120, 32, 43, 32, 49, 32, 59]⟩
abbrev aw2 : ByteArray := ⟨#[108, 101, 116, 32, 102, 32, 61, 32, 40, 120]⟩
abbrev aw3 : ByteArray := ⟨#[108, 101, 116, 32, 97, 32, 64, 50, 32, 61, 32, 49, 32, 59, 32, 108, 101, 116, 32, 98, 32, 64, 49, 32, 61, 32, 50, 32, 59]⟩
abbrev aw4 : ByteArray := ⟨#[117, 115, 101, 32, 109, 32, 59, 32, 108, 101, 116, 32, 102, 32, 61, 32, 40, 120, 32, 43, 32, 49, 41, 32, 59]⟩
abbrev awX : Sr := ⟨[⟨#[109]⟩], [⟨0, 1, false, [⟨#[102]⟩], false, .mk 10 ⟨#[43]⟩ ⟨#[]⟩ 0 0 [.mk 3 ⟨#[120]⟩ ⟨#[]⟩ 0 0 [], .mk 1 ⟨#[]⟩ ⟨#[]⟩ 1 0 []]⟩]⟩
theorem aw1_p : parseP aw1 = (sr0, 15, 3) := by kernel_rfl
theorem aw2_p : parseP aw2 = (sr0, 10, 3) := by kernel_rfl
theorem aw3_p : parseP aw3 = (sr0, 19, 10) := by kernel_rfl
theorem aw4_p : parseP aw4 = (awX, 0, 0) := by kernel_rfl
set_option maxRecDepth 100000 in
set_option maxHeartbeats 16000000 in
theorem awake22_c : Con Tryz.prog 11 [] (.d (.raw (.bool true))) := by
 have c1 := pparse_c aw1
 have c2 := pparse_c aw2
 have c3 := pparse_c aw3
 have c4 := pparse_c aw4
 rw [aw1_p] at c1
 rw [aw2_p] at c2
 rw [aw3_p] at c3
 rw [aw4_p] at c4
 refine con_of Tryz.func11 rfl (by decide +kernel) rfl rfl (by simp [Tryz.ntmps11]) fun A hA => ?_
 rw [Tryz.ntmps11] at hA
 refine goC 300 ?_
 simp only [go_sem, hA]
 refine goCall 300 c1 rfl rfl (by simp only [go_sem, hA]) ?_
 simp only [go_sem, hA, avS]
 refine goCall 300 c2 rfl rfl (by simp only [go_sem, hA]) ?_
 simp only [go_sem, hA, avS]
 refine goCall 300 c3 rfl rfl (by simp only [go_sem, hA]) ?_
 simp only [go_sem, hA, avS]
 refine goCall 600 c4 rfl rfl (by simp only [go_sem, hA]) ?_
 simp only [go_sem, hA, avS, encS, encDs, encD, List.map_cons, List.map_nil, List.length_cons, List.length_nil, Ex.kind, Ex.name, Ex.more, Ex.int, Ex.den, Ex.sub, List.getD_cons_zero, List.drop_succ_cons, List.drop_zero, Tryz.results11]
end
section
open Go Go.RowKit
inductive Kp {α : Type} (x y : PR α) (z : List KT) : Prop
 | far (a : Option α) (r : List KT) (hr : r ≠ []) (h1 : x = (a, r)) (h2 : y = (a, r ++ z))
 | fits (a : α) (h1 : x = (some a, [])) (h2 : y = (some a, z))
 | dot (a : α) (h1 : x = (some a, [])) (hd : z.head? = some (sg [46])) (h2 : (y.1 = none ∧ y.2.length < z.length) ∨ y.2.length + 2 ≤ z.length)
 | short (h1 : x = (none, [])) (h2 : y.2.length < z.length ∨ y = (none, z))
end
section
open Go Go.RowKit
end
section
open Go Go.RowKit
end
section
open Go Go.RowKit
end
section
open Go Go.RowKit
theorem exprP_few (t : List LTok) : nodesE (exprP t).1 ≤ t.length + 1 := by
 unfold exprP
 cases hp : pE (t.length + 1) (t.map kt) with
 | mk a r =>
  cases a with
  | none => simp [nodesE, nodesL]
  | some e =>
   have := pE_few _ _ _ _ hp
   rw [List.length_map] at this
   simp only
   split
   ·simp only; omega
   ·simp [nodesE, nodesL]
set_option maxRecDepth 100000 in
set_option maxHeartbeats 16000000 in
theorem rexpr_c (t : List LTok) (ht : t.length ≤ 524288) : Con Tryz.prog 17 [.d (.sl (encTs t))] (.tup [avE (exprP t).1, .d (.raw (.int .i64 (exprP t).2.1)), .d (.raw (.int .i64 (exprP t).2.2))]) := by
 have h0 := sit0 t (by omega)
 obtain ⟨ce, hs, _⟩ := cexpr t (t.length + 1) _ h0 (by simp)
 have hz : avX t (t.map kt, false) = .agg [.d (.sl (encTs t)), .d (.raw (.int .i64 0)), .d (.raw (.bool false))] := by
  show AV.agg [.d (.sl (encTs t)), .d (.raw (.int .i64 ((t.length - (t.map kt).length : Nat) : Int))), .d (.raw (.bool false))] = _
  rw [List.length_map, Nat.sub_self]; rfl
 rw [hz] at ce
 have hrl := rl_E (t.length + 1) (t.map kt)
 have hP : exprP t = match pE (t.length + 1) (t.map kt) with
  | (none, r) => ((.mk 0 ⟨#[]⟩ ⟨#[]⟩ 0 0 [] : Ex), ((t.length - r.length : Nat) : Int), (3 : Int))
  | (some e, r) => if checkX e = 0 then (e, ((t.length - r.length : Nat) : Int), 0) else (.mk 0 ⟨#[]⟩ ⟨#[]⟩ 0 0 [], 0, checkX e) := rfl
 generalize exprP t = R at hP ⊢
 generalize rE (t.length + 1) (t.map kt, false) = y at ce hs hrl
 obtain ⟨e, d⟩ := y
 refine con_of Tryz.func17 rfl (by decide +kernel) (by rw [avE_eq]; rfl) rfl (by simp [Tryz.ntmps17]) fun A hA => ?_
 rw [Tryz.ntmps17] at hA
 refine goC 400 ?_
 simp only [go_sem, hA]
 refine goCall 400 ce rfl (by simp only [go_sem]) (by simp only [go_sem, hA]) ?_
 cases hp : pE (t.length + 1) (t.map kt) with
 | mk a r =>
  rw [hp] at hrl hP
  cases a with
  | none =>
   have hd : d = (r, true) := hrl
   subst hd
   simp only at hP
   simp only [go_sem, hA, avE_eq, mixed]
   rw [hP]
   simp only [go_sem, Tryz.results17]
   refine ⟨by show chk _ _ _ = true; kernel_rfl, ?_⟩
   rfl
  | some e2 =>
   have hd : (e, d) = (e2, (r, false)) := hrl
   injection hd with hd1 hd2
   subst hd1 hd2
   have hfew := pE_few _ _ _ _ hp
   rw [List.length_map] at hfew
   simp only at hP
   simp only [go_sem, hA, avE_eq]
   refine goCall 400 (rCheckExpr_c e (by omega)) rfl (by simp only [go_sem, avE_eq]) (by simp only [go_sem, hA]) ?_
   by_cases h0 : checkX e = 0
   ·rw [if_pos h0] at hP
    simp only [go_sem, hA, h0, hP, mixed, Tryz.results17]
    show chk _ _ _ = true
    kernel_rfl
   ·have g0 : (decide ¬checkX e = 0) = true := decide_eq_true h0
    rw [if_neg h0] at hP
    simp only [go_sem, hA, g0, hP, Tryz.results17]
    rfl
set_option maxRecDepth 100000 in
set_option maxHeartbeats 16000000 in
theorem lawExpr_c (t : List LTok) (ht : t.length ≤ 1048576) : Con Tryz.prog 4 [.d (.sl (encTs t))] (.d (.raw (.bool true))) := by
 have cg := greatT_c t ht
 have ca := awake22_c
 refine con_of Tryz.func4 rfl (by decide +kernel) rfl rfl (by simp [Tryz.ntmps4]) fun A hA => ?_
 rw [Tryz.ntmps4] at hA
 refine goC 400 ?_
 simp only [go_sem, hA]
 refine goCall 400 cg rfl (by simp only [go_sem]) (by simp only [go_sem, hA]) ?_
 cases hg : greatT t with
 | true =>
  simp only [go_sem]
  refine goCall 400 ca rfl (by simp only [go_sem]) (by simp only [go_sem, hA]) ?_
  simp only [go_sem, hA, Tryz.results4]
 | false =>
 have hlen : t.length ≤ 120 := by
  unfold greatT at hg
  simp only [Bool.or_eq_false_iff, decide_eq_false_iff_not] at hg
  omega
 have ce := pexpr_c t (by omega)
 have cr := rexpr_c t (by omega)
 have hfew := exprP_few t
 generalize exprP t = R at ce cr hfew
 obtain ⟨e, n, c⟩ := R
 have cs := rSame_c e e (by simp only at hfew; omega)
 have k1 : decide (n = n) = true := decide_eq_true rfl
 have k2 : decide (c = c) = true := decide_eq_true rfl
 simp only [go_sem, hA]
 refine goCall 400 ce rfl (by simp only [go_sem]) (by simp only [go_sem, hA]) ?_
 simp only [go_sem, hA, avE_eq]
 refine goCall 400 cr rfl (by simp only [go_sem]) (by simp only [go_sem, hA]) ?_
 simp only [go_sem, hA, avE_eq]
 refine goCall 400 cs rfl (by simp only [go_sem, avE_eq]) (by simp only [go_sem, hA]) ?_
 simp only [go_sem, hA, sameE_refl]
 refine goCall 400 ca rfl rfl (by simp only [go_sem, hA]) ?_
 simp only [go_sem, hA, Tryz.results4]
end
section
open Go Go.RowKit
section
variable {t : List LTok} {c : Cur}
theorem side_sit (h : Sit t c) : Sit t (cSide c).2 ∧ (cSide c).2.1.length ≤ c.1.length := by
 unfold cSide
 split
 ·exact (next_kt h true).2
 ·exact name_sit h
set_option maxRecDepth 100000 in
set_option maxHeartbeats 8000000 in
theorem cside (h : Sit t c) : Con Tryz.prog 166 [avX t c] (.tup [.d (.raw (.string (cSide c).1)), avX t (cSide c).2]) := by
 have w1 : Con Tryz.prog 65 [avX t c, .d (.raw (.string ⟨#[110, 105, 108]⟩))] (.d (.raw (.bool (decide (cTok c = wd wNil))))) := cword h ⟨#[110, 105, 108]⟩
 have cx := cnext h true
 have cm := cname h
 have hL : cSide c = if cTok c = wd wNil then (⟨#[]⟩, cNext true c) else ((cName c).1, (cName c).2) := rfl
 generalize cSide c = R at hL ⊢
 refine con_of Tryz.func166 rfl (by decide +kernel) rfl rfl (by simp [Tryz.ntmps166]) fun A hA => ?_
 rw [Tryz.ntmps166] at hA
 refine goC 400 ?_
 simp only [go_sem, hA]
 refine goCall 400 w1 rfl (by simp only [go_sem]) (by simp only [go_sem, hA]) ?_
 by_cases e1 : cTok c = wd wNil
 ·have k1 : decide (cTok c = wd wNil) = true := decide_eq_true e1
  rw [if_pos e1] at hL
  simp only [go_sem, hA, k1]
  refine goCall 400 cx rfl (by simp only [go_sem]) (by simp only [go_sem, hA]) ?_
  simp only [go_sem, hA, hL, Tryz.results166]
 ·have k1 : decide (cTok c = wd wNil) = false := decide_eq_false e1
  rw [if_neg e1] at hL
  simp only [go_sem, hA, k1]
  refine goCall 400 cm rfl (by simp only [go_sem]) (by simp only [go_sem, hA]) ?_
  simp only [go_sem, hA, hL, Tryz.results166]
theorem names_eq (c : Cur) : cNames c = if (cSide c).1 ≠ ⟨#[]⟩ ∧ cTok (cSide c).2 ≠ sg [124, 124] then ([(cSide c).1], (cSide c).2) else
  ([(cSide c).1, (cSide (skipX [⟨#[124, 124]⟩] (cSide c).2)).1, (cSide (skipX [⟨#[124, 124]⟩] (cSide (skipX [⟨#[124, 124]⟩] (cSide c).2)).2)).1], (cSide (skipX [⟨#[124, 124]⟩] (cSide (skipX [⟨#[124, 124]⟩] (cSide c).2)).2)).2) := rfl
theorem names_sit (h : Sit t c) : Sit t (cNames c).2 ∧ (cNames c).2.1.length ≤ c.1.length := by
 obtain ⟨h1, l1⟩ := side_sit h
 obtain ⟨h2, l2⟩ := skipX_sit [⟨#[124, 124]⟩] _ h1
 obtain ⟨h3, l3⟩ := side_sit h2
 obtain ⟨h4, l4⟩ := skipX_sit [⟨#[124, 124]⟩] _ h3
 obtain ⟨h5, l5⟩ := side_sit h4
 rw [names_eq]
 split
 ·exact ⟨h1, l1⟩
 ·exact ⟨h5, Nat.le_trans l5 (Nat.le_trans l4 (Nat.le_trans l3 (Nat.le_trans l2 l1)))⟩
set_option maxRecDepth 100000 in
set_option maxHeartbeats 16000000 in
theorem cnames (h : Sit t c) : Con Tryz.prog 125 [avX t c] (.tup [.d (.sl (encS (cNames c).1)), avX t (cNames c).2]) := by
 have q1 := cside h
 obtain ⟨h1, _⟩ := side_sit h
 have hL := names_eq c
 generalize cNames c = R at hL ⊢
 generalize (cSide c).1 = a at q1 hL
 generalize (cSide c).2 = d at q1 hL h1
 have w1 : Con Tryz.prog 85 [avX t d, .d (.raw (.string ⟨#[124, 124]⟩))] (.d (.raw (.bool (decide (cTok d = sg [124, 124]))))) := csign h1 ⟨#[124, 124]⟩
 have q2 := cskip h1 [⟨#[124, 124]⟩] (by decide) (by decide)
 obtain ⟨h2, _⟩ := skipX_sit [⟨#[124, 124]⟩] d h1
 generalize skipX [⟨#[124, 124]⟩] d = d2 at q2 h2 hL
 have q3 := cside h2
 obtain ⟨h3, _⟩ := side_sit h2
 generalize (cSide d2).1 = b at q3 hL
 generalize (cSide d2).2 = d3 at q3 hL h3
 have q4 := cskip h3 [⟨#[124, 124]⟩] (by decide) (by decide)
 obtain ⟨h4, _⟩ := skipX_sit [⟨#[124, 124]⟩] d3 h3
 generalize skipX [⟨#[124, 124]⟩] d3 = d4 at q4 h4 hL
 have q5 := cside h4
 generalize (cSide d4).1 = e at q5 hL
 generalize (cSide d4).2 = d5 at q5 hL
 refine con_of Tryz.func125 rfl (by decide +kernel) rfl rfl (by simp [Tryz.ntmps125]) fun A hA => ?_
 rw [Tryz.ntmps125] at hA
 refine goC 400 ?_
 simp only [go_sem, hA]
 refine goCall 400 q1 rfl (by simp only [go_sem]) (by simp only [go_sem, hA]) ?_
 by_cases ha : a = ⟨#[]⟩
 ·subst ha
  rw [if_neg (fun h => h.1 rfl)] at hL
  simp only [go_sem, hA, undef]
  refine goCall 400 q2 rfl (by simp only [go_sem, encS, List.map_cons, List.map_nil]) (by simp only [go_sem, hA]) ?_
  simp only [go_sem]
  refine goCall 400 q3 rfl (by simp only [go_sem]) (by simp only [go_sem, hA]) ?_
  simp only [go_sem, hA]
  refine goCall 400 q4 rfl (by simp only [go_sem, encS, List.map_cons, List.map_nil]) (by simp only [go_sem, hA]) ?_
  simp only [go_sem]
  refine goCall 400 q5 rfl (by simp only [go_sem]) (by simp only [go_sem, hA]) ?_
  simp only [go_sem, hA, mixed, hL, encS, List.map_cons, List.map_nil, Tryz.results125]
  show chk _ _ _ = true
  kernel_rfl
 ·have da : (decide ¬ a = ⟨#[]⟩) = true := by simpa using ha
  simp only [go_sem, hA, da]
  refine goCall 400 w1 rfl (by simp only [go_sem]) (by simp only [go_sem, hA]) ?_
  by_cases e1 : cTok d = sg [124, 124]
  ·have k1 : decide (cTok d = sg [124, 124]) = true := decide_eq_true e1
   rw [if_neg (fun h => h.2 e1)] at hL
   simp only [go_sem, hA, k1]
   refine goCall 400 q2 rfl (by simp only [go_sem, encS, List.map_cons, List.map_nil]) (by simp only [go_sem, hA]) ?_
   simp only [go_sem]
   refine goCall 400 q3 rfl (by simp only [go_sem]) (by simp only [go_sem, hA]) ?_
   simp only [go_sem, hA]
   refine goCall 400 q4 rfl (by simp only [go_sem, encS, List.map_cons, List.map_nil]) (by simp only [go_sem, hA]) ?_
   simp only [go_sem]
   refine goCall 400 q5 rfl (by simp only [go_sem]) (by simp only [go_sem, hA]) ?_
   simp only [go_sem, hA, mixed, hL, encS, List.map_cons, List.map_nil, Tryz.results125]
   show chk _ _ _ = true
   kernel_rfl
  ·have k1 : decide (cTok d = sg [124, 124]) = false := decide_eq_false e1
   rw [if_pos ⟨ha, e1⟩] at hL
   simp only [go_sem, hA, k1, mixed, hL, encS, List.map_cons, List.map_nil, Tryz.results125]
   show chk _ _ _ = true
   kernel_rfl
end
end
section
open Go Go.RowKit
abbrev curB (t : List LTok) (c : Cur) : Blk := .cell 69 [.d (.sl (encTs t)), .d (.raw (.int .i64 (t.length - c.1.length : Nat))), .d (.raw (.bool c.2))]
abbrev curZ : Blk := .cell 69 [.d nilD, .d (.raw (.int .i64 0)), .d (.raw (.bool false))]
abbrev ddSt (t : List LTok) (c : Cur) (id k : Int) (pub : Bool) (nm : D) (db : Bool) (b : List D) : St := ⟨[(1, .box 0 0), (2, .box 1 0), (3, .d (.raw (.int .i64 0))), (4, .box 3 0), (5, .box 1001 0)], [(0, some (curB t c)), (1, some dclZ), (3, some curZ), (1001, some (dclB id k pub nm db b))], []⟩
abbrev ddSt6 (t : List LTok) (at_ : Nat) (c : Cur) (id k : Int) (pub : Bool) (nm : D) (db : Bool) (b : List D) : St := ⟨[(1, .box 0 0), (2, .box 1 0), (3, .d (.raw (.int .i64 0))), (4, .box 3 0), (5, .box 1001 0), (6, .d (.raw (.int .i64 at_)))], [(0, some (curB t c)), (1, some dclZ), (3, some curZ), (1001, some (dclB id k pub nm db b))], []⟩
section
variable {t : List LTok} {c : Cur}
theorem flag_sit (w : List UInt8) (h : Sit t c) : Sit t (cFlag w c).2 ∧ (cFlag w c).2.1.length ≤ c.1.length := by
 unfold cFlag
 split
 ·exact (next_kt h true).2
 ·exact ⟨h, Nat.le_refl _⟩
theorem sign_short {s : List UInt8} (h : cTok c = sg s) : (cNext true c).1.length + 1 = c.1.length ∧ (cNext true c).2 = false ∧ (cNext true c).1 = c.1.tail := by
 obtain ⟨l, b⟩ := c
 cases b with
 | true => rw [cTok_bad] at h; cases h
 | false =>
  cases l with
  | nil => rw [cTok_nil] at h; cases h
  | cons y r => exact ⟨rfl, rfl, rfl⟩
theorem id_sit (h : Sit t c) : Sit t (cId c).2 ∧ (cId c).2.1.length ≤ c.1.length := by
 unfold cId
 split
 ·rename_i e
  obtain ⟨_, h1, l1⟩ := next_kt h true
  obtain ⟨h2, l2⟩ := num_sit h1
  dsimp only
  split
  ·rw [← (sign_short e).2.2]
   exact ⟨⟨h1.le, h1.eq, h1.few⟩, l1⟩
  ·exact ⟨h2, Nat.le_trans l2 l1⟩
 ·exact ⟨h, Nat.le_refl _⟩
end
theorem body_eq (pe : Cur → Ex × Cur) (db pub : Bool) (c : Cur) : cBody pe db pub c =
  (((⟨(cId (cNames (cKind c).2).2).1, (cKind c).1, pub, (cNames (cKind c).2).1, db, (pe (skipX [⟨#[61]⟩] (cId (cNames (cKind c).2).2).2)).1⟩ : Dc), (cKind c).2.1.length), skipX [⟨#[59]⟩] (pe (skipX [⟨#[61]⟩] (cId (cNames (cKind c).2).2).2)).2) := rfl
set_option maxRecDepth 100000 in
set_option maxHeartbeats 32000000 in
theorem cdecl {t : List LTok} {pe : Cur → Ex × Cur} {N : Nat} (hp : SubOK t pe N) (c : Cur) (h : Sit t c) (hN : c.1.length < N) :
  Con Tryz.prog 70 [avX t c] (.tup [avD (cDecl pe c).1.1, .d (.raw (.int .i64 (t.length - (cDecl pe c).1.2 : Nat))), avX t (cDecl pe c).2]) ∧ Sit t (cDecl pe c).2 ∧ (cDecl pe c).2.1.length ≤ c.1.length := by
 have hD : cDecl pe c = cBody pe (cFlag wConflict c).1 (cFlag wPub (cFlag wConflict c).2).1 (cFlag wPub (cFlag wConflict c).2).2 := rfl
 have hfw := h.few
 have f1 : cFlag wConflict c = if cTok c = wd wConflict then (true, cNext true c) else (false, c) := rfl
 obtain ⟨h1, l1⟩ := flag_sit wConflict h
 generalize cFlag wConflict c = F1 at f1 h1 l1 hD
 obtain ⟨db, c1⟩ := F1
 simp only at h1 l1 hD
 have f2 : cFlag wPub c1 = if cTok c1 = wd wPub then (true, cNext true c1) else (false, c1) := rfl
 obtain ⟨h2, l2⟩ := flag_sit wPub h1
 generalize cFlag wPub c1 = F2 at f2 h2 l2 hD
 obtain ⟨pub, c2⟩ := F2
 simp only at h2 l2 hD
 rw [body_eq] at hD
 have f3 : (cKind c2).1 = kindK (cTok c2) := rfl
 have x3 := cnext h2 (decide (kindK (cTok c2) ≠ 0))
 obtain ⟨_, h3, l3⟩ := next_kt h2 (decide (kindK (cTok c2) ≠ 0))
 rw [show cNext (decide (kindK (cTok c2) ≠ 0)) c2 = (cKind c2).2 from rfl] at x3 h3 l3
 rw [f3] at hD
 generalize (cKind c2).2 = c3 at x3 h3 l3 hD
 have q4 := cnames h3
 obtain ⟨h4, l4⟩ := names_sit h3
 generalize cNames c3 = F4 at q4 h4 l4 hD
 obtain ⟨ns, c4⟩ := F4
 simp only at q4 h4 l4 hD
 have f5 : cId c4 = if cTok c4 = sg [64] then ((cNum (cNext true c4)).1, if (cNum (cNext true c4)).2.2 = false ∧ (cNum (cNext true c4)).1 = 0 then (c4.1.tail, true) else (cNum (cNext true c4)).2) else (0, c4) := rfl
 obtain ⟨h5, l5⟩ := id_sit h4
 generalize cId c4 = F5 at f5 h5 l5 hD
 obtain ⟨id, c5⟩ := F5
 simp only at h5 l5 hD
 have q6 := cskip h5 [⟨#[61]⟩] (by decide) (by decide)
 obtain ⟨h6, l6⟩ := skipX_sit [⟨#[61]⟩] _ h5
 generalize skipX [⟨#[61]⟩] c5 = c6 at q6 h6 l6 hD
 obtain ⟨q7, h7, l7⟩ := hp c6 h6 (by omega)
 generalize pe c6 = F7 at q7 h7 l7 hD
 obtain ⟨e, c7⟩ := F7
 simp only at q7 h7 l7 hD
 have q8 := cskip h7 [⟨#[59]⟩] (by decide) (by decide)
 obtain ⟨h8, l8⟩ := skipX_sit [⟨#[59]⟩] _ h7
 generalize skipX [⟨#[59]⟩] c7 = c8 at q8 h8 l8 hD
 rw [hD]
 refine ⟨?_, h8, by simp only; omega⟩
 simp only
 refine con_of Tryz.func70 rfl (by decide +kernel) rfl rfl (by simp [Tryz.ntmps70]) fun A hA => ?_
 rw [Tryz.ntmps70] at hA
 refine goMid 300 [1, 2, 3, 4] [0, 1, 3] [] (fun σ => σ = (⟨[(1, .box 0 0), (2, .box 1 0), (3, .d (.raw (.int .i64 0))), (4, .box 3 0)], [(0, some (curB t c)), (1, some dclZ), (3, some curZ)], []⟩ : St)) (by simp only [go_sem, hA]; rfl) ?_
 rintro σ rfl
 refine goMid 300 [1, 2, 3, 4, 5] [0, 1, 3, 1001] [] (fun σ => σ = ddSt t c 0 0 false nilD false zeroE) (by simp only [go_sem, hA]; rfl) ?_
 rintro σ rfl
 refine goMid 400 [1, 2, 3, 4, 5] [0, 1, 3, 1001] [] (fun σ => σ = ddSt t c1 0 0 false nilD db zeroE) ?_ ?_
 ·have w1 : Con Tryz.prog 65 [avX t c, .d (.raw (.string ⟨#[99, 111, 110, 102, 108, 105, 99, 116]⟩))] (.d (.raw (.bool (decide (cTok c = wd wConflict))))) := cword h ⟨#[99, 111, 110, 102, 108, 105, 99, 116]⟩
  have cx := cnext h true
  simp only [go_sem, hA]
  refine goCall 400 w1 rfl (by simp only [go_sem]) (by simp only [go_sem, hA]) ?_
  by_cases e1 : cTok c = wd wConflict
  ·have k1 : decide (cTok c = wd wConflict) = true := decide_eq_true e1
   rw [if_pos e1] at f1
   cases f1
   simp only [go_sem, hA, k1]
   refine goCall 400 cx rfl (by simp only [go_sem]) (by simp only [go_sem, hA]) ?_
   simp only [go_sem, hA]
   try rfl
  ·have k1 : decide (cTok c = wd wConflict) = false := decide_eq_false e1
   rw [if_neg e1] at f1
   cases f1
   simp only [go_sem, k1]
   try rfl
 rintro σ rfl
 refine goMid 400 [1, 2, 3, 4, 5] [0, 1, 3, 1001] [] (fun σ => σ = ddSt t c2 0 0 pub nilD db zeroE) ?_ ?_
 ·have w1 : Con Tryz.prog 65 [avX t c1, .d (.raw (.string ⟨#[112, 117, 98]⟩))] (.d (.raw (.bool (decide (cTok c1 = wd wPub))))) := cword h1 ⟨#[112, 117, 98]⟩
  have cx := cnext h1 true
  simp only [go_sem, hA]
  refine goCall 400 w1 rfl (by simp only [go_sem]) (by simp only [go_sem, hA]) ?_
  by_cases e1 : cTok c1 = wd wPub
  ·have k1 : decide (cTok c1 = wd wPub) = true := decide_eq_true e1
   rw [if_pos e1] at f2
   cases f2
   simp only [go_sem, hA, k1]
   refine goCall 400 cx rfl (by simp only [go_sem]) (by simp only [go_sem, hA]) ?_
   simp only [go_sem, hA]
   try rfl
  ·have k1 : decide (cTok c1 = wd wPub) = false := decide_eq_false e1
   rw [if_neg e1] at f2
   cases f2
   simp only [go_sem, k1]
   try rfl
 rintro σ rfl
 refine goMid 400 [1, 2, 3, 4, 5] [0, 1, 3, 1001] [] (fun σ => σ = ddSt t c2 0 (kindK (cTok c2)) pub nilD db zeroE) ?_ ?_
 ·have fk : kindK (cTok c2) = if cTok c2 = wd wLet then 1 else if cTok c2 = wd wTest then 2 else if cTok c2 = wd wFlaky then 3 else 0 := rfl
  generalize kindK (cTok c2) = kk at fk ⊢
  simp only [go_sem, hA]
  have w1 : Con Tryz.prog 65 [avX t c2, .d (.raw (.string ⟨#[108, 101, 116]⟩))] (.d (.raw (.bool (decide (cTok c2 = wd wLet))))) := cword h2 ⟨#[108, 101, 116]⟩
  refine goCall 400 w1 rfl (by simp only [go_sem]) (by simp only [go_sem, hA]) ?_
  by_cases e1 : cTok c2 = wd wLet
  ·have k1 : decide (cTok c2 = wd wLet) = true := decide_eq_true e1
   rw [if_pos e1] at fk
   simp only [go_sem, hA, k1, fk]
   try rfl
  have k1 : decide (cTok c2 = wd wLet) = false := decide_eq_false e1
  rw [if_neg e1] at fk
  simp only [go_sem, hA, k1]
  have w2 : Con Tryz.prog 65 [avX t c2, .d (.raw (.string ⟨#[116, 101, 115, 116]⟩))] (.d (.raw (.bool (decide (cTok c2 = wd wTest))))) := cword h2 ⟨#[116, 101, 115, 116]⟩
  refine goCall 400 w2 rfl (by simp only [go_sem]) (by simp only [go_sem, hA]) ?_
  by_cases e2 : cTok c2 = wd wTest
  ·have k1 : decide (cTok c2 = wd wTest) = true := decide_eq_true e2
   rw [if_pos e2] at fk
   simp only [go_sem, hA, k1, fk]
   try rfl
  have k2 : decide (cTok c2 = wd wTest) = false := decide_eq_false e2
  rw [if_neg e2] at fk
  simp only [go_sem, hA, k2]
  have w3 : Con Tryz.prog 65 [avX t c2, .d (.raw (.string ⟨#[102, 108, 97, 107, 121]⟩))] (.d (.raw (.bool (decide (cTok c2 = wd wFlaky))))) := cword h2 ⟨#[102, 108, 97, 107, 121]⟩
  refine goCall 400 w3 rfl (by simp only [go_sem]) (by simp only [go_sem, hA]) ?_
  by_cases e3 : cTok c2 = wd wFlaky
  ·have k1 : decide (cTok c2 = wd wFlaky) = true := decide_eq_true e3
   rw [if_pos e3] at fk
   simp only [go_sem, hA, k1, fk]
   try rfl
  have k3 : decide (cTok c2 = wd wFlaky) = false := decide_eq_false e3
  rw [if_neg e3] at fk
  simp only [go_sem, hA, k3, fk]
  try rfl
 rintro σ rfl
 generalize kindK (cTok c2) = kk at x3 ⊢
 refine goMid 400 [1, 2, 3, 4, 5] [0, 1, 3, 1001] [] (fun σ => σ = ddSt t c3 0 kk pub nilD db zeroE) ?_ ?_
 ·simp only [go_sem, hA]
  refine goCall 400 x3 rfl (by simp only [go_sem]) (by simp only [go_sem, hA]) ?_
  simp only [go_sem]
  try rfl
 rintro σ rfl
 refine goMid 300 [1, 2, 3, 4, 5, 6] [0, 1, 3, 1001] [] (fun σ => σ = ddSt6 t (t.length - c3.1.length) c3 0 kk pub nilD db zeroE) (by simp only [go_sem, hA]) ?_
 rintro σ rfl
 refine goMid 400 [1, 2, 3, 4, 5, 6] [0, 1, 3, 1001] [] (fun σ => σ = ddSt6 t (t.length - c3.1.length) c4 0 kk pub (.sl (encS ns)) db zeroE) ?_ ?_
 ·simp only [go_sem, hA]
  refine goCall 400 q4 rfl (by simp only [go_sem]) (by simp only [go_sem, hA]) ?_
  simp only [go_sem, hA]
  try rfl
 rintro σ rfl
 refine goMid 400 [1, 2, 3, 4, 5, 6] [0, 1, 3, 1001] [] (fun σ => σ = ddSt6 t (t.length - c3.1.length) c5 id kk pub (.sl (encS ns)) db zeroE) ?_ ?_
 ·have w1 : Con Tryz.prog 85 [avX t c4, .d (.raw (.string ⟨#[64]⟩))] (.d (.raw (.bool (decide (cTok c4 = sg [64]))))) := csign h4 ⟨#[64]⟩
  have cx := cnext h4 true
  obtain ⟨_, g1, _⟩ := next_kt h4 true
  have cn := cnumber g1
  simp only [go_sem, hA]
  refine goCall 400 w1 rfl (by simp only [go_sem]) (by simp only [go_sem, hA]) ?_
  by_cases e1 : cTok c4 = sg [64]
  ·have k1 : decide (cTok c4 = sg [64]) = true := decide_eq_true e1
   obtain ⟨y1, y2, y3⟩ := sign_short e1
   have hle := h4.le
   rw [if_pos e1] at f5
   generalize cNext true c4 = d at cx cn f5 y1 y2 y3
   generalize cNum d = F at cn f5
   obtain ⟨n, x⟩ := F
   simp only at cn f5
   simp only [go_sem, hA, k1]
   refine goCall 400 cx rfl (by simp only [go_sem]) (by simp only [go_sem, hA]) ?_
   simp only [go_sem]
   refine goCall 400 cn rfl (by simp only [go_sem]) (by simp only [go_sem, hA]) ?_
   simp only [go_sem, hA]
   cases hb : x.2 with
   | true =>
    rw [if_neg (fun h => by rw [hb] at h; exact absurd h.1 (by decide))] at f5
    cases f5
    simp only [go_sem, hA]
    refine ⟨by show chk _ _ _ = true; kernel_rfl, ?_⟩
    simp only [ddSt6, curB, hb]
    rfl
   | false =>
    by_cases hz : n = 0
    ·rw [if_pos ⟨hb, hz⟩] at f5
     cases f5
     have d0 : decide (id = 0) = true := decide_eq_true hz
     simp only [go_sem, hA, d0]
     have hx : ((t.length - c4.1.length : Nat) : Int) + 1 = ((t.length - c4.1.tail.length : Nat) : Int) := by rw [← y3]; omega
     refine ⟨by unfold inI64; omega, by show chk _ _ _ = true; kernel_rfl, ?_⟩
     simp only [ddSt6, curB, hx]
     rfl
    ·rw [if_neg (fun h => hz h.2)] at f5
     cases f5
     have d0 : decide (id = 0) = false := decide_eq_false hz
     simp only [go_sem, hA, d0]
     refine ⟨by show chk _ _ _ = true; kernel_rfl, ?_⟩
     simp only [ddSt6, curB, hb]
     rfl
  ·have k1 : decide (cTok c4 = sg [64]) = false := decide_eq_false e1
   rw [if_neg e1] at f5
   cases f5
   simp only [go_sem, k1]
   try rfl
 rintro σ rfl
 refine goMid 400 [1, 2, 3, 4, 5, 6] [0, 1, 3, 1001] [] (fun σ => σ = ddSt6 t (t.length - c3.1.length) c7 id kk pub (.sl (encS ns)) db [.raw (.int .i64 e.kind), .raw (.string e.name), .raw (.string e.more), .raw (.int .i64 e.int), .raw (.int .i64 e.den), .sl (encL e.sub)]) ?_ ?_
 ·simp only [go_sem, hA]
  refine goCall 400 q6 rfl (by simp only [go_sem, encS, List.map_cons, List.map_nil]) (by simp only [go_sem, hA]) ?_
  simp only [go_sem]
  refine goCall 400 q7 rfl (by simp only [go_sem]) (by simp only [go_sem, hA]) ?_
  simp only [go_sem, hA, avE_eq]
  try rfl
 rintro σ rfl
 refine goC 400 ?_
 simp only [go_sem, hA, mixed]
 refine goCallD 400 q8 rfl (by simp only [go_sem, encS, List.map_cons, List.map_nil]) (by simp only [go_sem, hA]) ?_
 simp only [go_sem, hA, avD, Tryz.results70]
 show chk _ _ _ = true
 kernel_rfl
end
end Go.Proofs.YtnnolijagpakiaaGreatDoor
