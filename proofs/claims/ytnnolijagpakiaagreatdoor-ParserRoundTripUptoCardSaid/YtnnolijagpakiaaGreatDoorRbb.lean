/- Texts of this proof, part 28: what the proof uses of them. -/
import Derived.Test.YtnnolijagpakiaaGreatDoorRba
import Derived.Test.YtnnolijagpakiaaGreatDoorRav
import Derived.Test.YtnnolijagpakiaaGreatDoorRam
import Derived.Test.YtnnolijagpakiaaGreatDoorRaw
namespace Go.Proofs.YtnnolijagpakiaaGreatDoor
section
open Go Go.RowKit
abbrev un1St (x : Sr) (q : Nat) : St := ⟨[(1, .box 0 0), (2, .d (.raw (.int .i64 0))), (3, .d (.raw (.int .i64 q)))], [(0, some (srB x))], []⟩
abbrev un2St (x : Sr) (q : Nat) : St := ⟨[(1, .box 0 0), (2, .d (.raw (.int .i64 0))), (4, .d (.raw (.int .i64 q)))], [(0, some (srB x))], []⟩
abbrev plF (l : List Dc) : Nat → Int := fun q => if misplaced l q then (q : Int) else 0
theorem plF_hit {l : List Dc} {q : Nat} (h : firstN (plF l) q = 0) (hq : q < l.length) (hm : misplaced l q = true) : placeX l = q ∧ ¬ (q : Int) = 0 := by
 have h0 : ¬ (q : Int) = 0 := by
  unfold misplaced at hm
  simp only [Bool.and_eq_true, decide_eq_true_eq] at hm
  omega
 have e : plF l q = q := if_pos hm
 have := firstN_hit (n := l.length) h hq (by rw [e]; exact h0)
 exact ⟨this.trans e, h0⟩
set_option maxRecDepth 100000 in
set_option maxHeartbeats 16000000 in
theorem unordered_c (x : Sr) (hl : x.uses.length ≤ 1048576) (hd : x.decls.length ≤ 1048576) : Con Tryz.prog 30 [avS x] (.d (.raw (.int .i64 (unordX x)))) := by
 refine con_of Tryz.func30 rfl (by decide +kernel) rfl rfl (by simp [Tryz.ntmps30]) fun A hA => ?_
 rw [Tryz.ntmps30] at hA
 refine goMid 300 [1, 2] [0] [] (fun σ => σ = (⟨[(1, .box 0 0), (2, .d (.raw (.int .i64 0)))], [(0, some (srB x))], []⟩ : St)) (by simp only [go_sem, hA, avS]) ?_
 rintro σ rfl
 refine goMid 100600 [1, 2] [0] [] (fun σ => firstN (usesBad x.uses) x.uses.length = 0 ∧ σ = (⟨[(1, .box 0 0), (2, .d (.raw (.int .i64 0)))], [(0, some (srB x))], []⟩ : St)) ?_ ?_
 ·simp only [go_sem, hA]
  refine satC_loop [1, 2, 3] [0] [] (fun y σ => ∃ q : Nat, 1 ≤ q ∧ (q ≤ x.uses.length ∨ q = 1) ∧ y = x.uses.length + 1 - q ∧ firstN (usesBad x.uses) q = 0 ∧ σ = un1St x q) x.uses.length ⟨1, by omega, .inr rfl, by omega, by rfl, rfl⟩ ?_
  rintro y σ ⟨q, hq1, hq, rfl, hf, rfl⟩
  refine goC 400 ?_
  by_cases hlt : q < x.uses.length
  ·have k1 : decide ((q : Int) < (x.uses.length : Int)) = true := decide_eq_true (by omega)
   have hq2 : ((q : Int) - 1).toNat = q - 1 := by omega
   have hat := atB_get x.uses q hlt
   have hat1 := atB_get x.uses (q - 1) (by omega)
   have hin : inI64 ((q : Int) - 1) := by unfold inI64; omega
   have hw : IntKind.i64.wrap ((q : Int) - 1) = (q : Int) - 1 := wrapI64 hin
   cases hls : ltS x.uses[q - 1] x.uses[q] with
   | false =>
    have hls' : Op.bytesLess x.uses[q - 1].data.toList x.uses[q].data.toList = false := hls
    have hb : usesBad x.uses q = 1 := by unfold usesBad; rw [hat, hat1]; exact if_pos ⟨by omega, hls⟩
    have hn : firstN (usesBad x.uses) x.uses.length = 1 := by rw [firstN_hit hf hlt (by rw [hb]; decide), hb]
    have hr : unordX x = -1 := by unfold unordX; rw [hn]; rfl
    simp only [go_sem, hA, encS_length, k1, hq2, Int.toNat_natCast, encS_at x.uses q hlt, encS_at x.uses (q - 1) (by omega), hls', hr, mixed, Tryz.results30]
    exact ⟨hin, ⟨by omega, by omega⟩, ⟨by omega, by omega⟩, by show chk _ _ _ = true; kernel_rfl⟩
   | true =>
    have hls' : Op.bytesLess x.uses[q - 1].data.toList x.uses[q].data.toList = true := hls
    have hb : usesBad x.uses q = 0 := by unfold usesBad; rw [hat, hat1]; exact if_neg fun h => by rw [hls] at h; cases h.2
    simp only [go_sem, hA, encS_length, k1, hq2, Int.toNat_natCast, encS_at x.uses q hlt, encS_at x.uses (q - 1) (by omega), hls', mixed]
    exact ⟨hin, ⟨by omega, by omega⟩, ⟨by omega, by omega⟩, by show chk _ _ _ = true; kernel_rfl, by unfold inI64; omega, x.uses.length + 1 - (q + 1), by omega, q + 1, by omega, .inl (by omega), rfl, firstN_step hf hb, rfl⟩
  ·have k1 : decide ((q : Int) < (x.uses.length : Int)) = false := decide_eq_false (by omega)
   have hz : firstN (usesBad x.uses) x.uses.length = 0 := by
    rcases hq with hq | hq
    ·obtain rfl : q = x.uses.length := by omega
     exact hf
    ·subst hq
     rcases Nat.lt_or_ge x.uses.length 1 with h | h
     ·rw [show x.uses.length = 0 by omega]; rfl
     ·rw [show x.uses.length = 1 by omega]; exact hf
   simp only [go_sem, hA, encS_length, k1]
   exact hz
 rintro σ ⟨hz, rfl⟩
 have hu : unordX x = if placeX x.decls = 0 then -1 else placeX x.decls := by unfold unordX; rw [hz]; rfl
 refine goC 400 ?_
 simp only [go_sem, hA]
 refine satC_loop [1, 2, 4] [0] [] (fun y σ => ∃ q : Nat, 1 ≤ q ∧ (q ≤ x.decls.length ∨ q = 1) ∧ y = x.decls.length + 1 - q ∧ firstN (plF x.decls) q = 0 ∧ σ = un2St x q) x.decls.length ⟨1, by omega, .inr rfl, by omega, by unfold firstN plF misplaced; rfl, rfl⟩ ?_
 rintro y σ ⟨q, hq1, hq, rfl, hf, rfl⟩
 refine goC 400 ?_
 by_cases hlt : q < x.decls.length
 case neg =>
  have k1 : decide ((q : Int) < (x.decls.length : Int)) = false := decide_eq_false (by omega)
  have hz : placeX x.decls = 0 := by
   show firstN (plF x.decls) x.decls.length = 0
   rcases hq with hq | hq
   ·obtain rfl : q = x.decls.length := by omega
    exact hf
   ·subst hq
    rcases Nat.lt_or_ge x.decls.length 1 with h | h
    ·rw [show x.decls.length = 0 by omega]; rfl
    ·rw [show x.decls.length = 1 by omega]; exact hf
  have hr : unordX x = -1 := by rw [hu, if_pos hz]
  simp only [go_sem, hA, encDs_length, k1, hr, Tryz.results30]
 have k1 : decide ((q : Int) < (x.decls.length : Int)) = true := decide_eq_true (by omega)
 have hq2 : ((q : Int) - 1).toNat = q - 1 := by omega
 have hat := atD_get x.decls q hlt
 have hat1 := atD_get x.decls (q - 1) (by omega)
 have hin : inI64 ((q : Int) - 1) := by unfold inI64; omega
 have hm : misplaced x.decls q = (decide (¬ x.decls[q].id = 0) && (decide (x.decls[q - 1].id = 0) || decide (x.decls[q].id ≤ x.decls[q - 1].id))) := by
  unfold misplaced; rw [hat, hat1, decide_eq_true (show 0 < q by omega), Bool.true_and]
 have hgo : misplaced x.decls q = false → firstN (plF x.decls) (q + 1) = 0 := fun h => firstN_step hf (by unfold plF; rw [h]; rfl)
 have hhit : misplaced x.decls q = true → unordX x = q := fun h => by
  obtain ⟨e1, e2⟩ := plF_hit hf hlt h
  rw [hu, e1, if_neg e2]
 have hd1 := encDs_at x.decls q hlt
 have hd2 := encDs_at x.decls (q - 1) (by omega)
 by_cases h1 : x.decls[q].id = 0
 ·have g1 : (decide ¬ x.decls[q].id = 0) = false := decide_eq_false (by simpa using h1)
  have hz := hgo (by rw [hm, g1]; rfl)
  simp only [go_sem, hA, encDs_length, k1, Int.toNat_natCast, hd1, encD, g1, undef, mixed]
  exact ⟨⟨by omega, by omega⟩, by show chk _ _ _ = true; kernel_rfl, by unfold inI64; omega, x.decls.length + 1 - (q + 1), by omega, q + 1, by omega, .inl (by omega), rfl, hz, rfl⟩
 ·have g1 : (decide ¬ x.decls[q].id = 0) = true := decide_eq_true h1
  by_cases h2 : x.decls[q - 1].id = 0
  ·have g2 : decide (x.decls[q - 1].id = 0) = true := decide_eq_true h2
   have hr := hhit (by rw [hm, g1, g2]; rfl)
   simp only [go_sem, hA, encDs_length, k1, hq2, Int.toNat_natCast, hd1, hd2, encD, g1, g2, undef, hr, mixed, Tryz.results30]
   exact ⟨⟨by omega, by omega⟩, hin, ⟨by omega, by omega⟩, by show chk _ _ _ = true; kernel_rfl⟩
  ·have g2 : decide (x.decls[q - 1].id = 0) = false := decide_eq_false h2
   cases h3 : decide (x.decls[q].id ≤ x.decls[q - 1].id) with
   | true =>
    have hr := hhit (by rw [hm, g1, g2, h3]; rfl)
    simp only [go_sem, hA, encDs_length, k1, hq2, Int.toNat_natCast, hd1, hd2, encD, g1, g2, h3, hr, mixed, Tryz.results30]
    exact ⟨⟨by omega, by omega⟩, hin, ⟨by omega, by omega⟩, hin, ⟨by omega, by omega⟩, ⟨by omega, by omega⟩, by show chk _ _ _ = true; kernel_rfl⟩
   | false =>
    have hz := hgo (by rw [hm, g1, g2, h3]; rfl)
    simp only [go_sem, hA, encDs_length, k1, hq2, Int.toNat_natCast, hd1, hd2, encD, g1, g2, h3, mixed]
    exact ⟨⟨by omega, by omega⟩, hin, ⟨by omega, by omega⟩, hin, ⟨by omega, by omega⟩, ⟨by omega, by omega⟩, by show chk _ _ _ = true; kernel_rfl, by unfold inI64; omega, x.decls.length + 1 - (q + 1), by omega, q + 1, by omega, .inl (by omega), rfl, hz, rfl⟩
end
section
open Go Go.RowKit
theorem postPa_cases {t : List LTok} {x : PR (Sr × List Nat)} {o : Out} (h : postTry (postPa t x) o) : (∃ e s', x = (some e, restK s') ∧ o = .ret (.tup [.d (.raw (.int .i64 0)), .d (.raw (.int .i64 0))]) (paL s' (srB e.1) (iB t e.2)) ∧ Rdy s' t) ∨ ∃ r, x = (none, r) ∧ o = .ret (.tup [.d (.raw (.int .i64 (t.length - r.length : Nat))), .d (.raw (.int .i64 3))]) ⟨[], []⟩ := by
 obtain ⟨a, r⟩ := x
 cases a with
 | some e =>
  left
  rcases h with ⟨res, L', h1, s', h2, h3, rfl⟩ | ⟨n, h1, s', h2, _⟩
  ·cases h2
   exact ⟨e, s', rfl, h1, h3⟩
  ·cases h2
 | none =>
  right
  rcases h with ⟨res, L', h1, h2⟩ | ⟨n, h1, h2⟩
  ·cases h2
  ·injection h2 with h2
   injection h2 with _ h2
   injection h2 with h2
   simp only [Array.mk.injEq, List.cons.injEq, Value.int.injEq, true_and, and_true] at h2
   subst h2
   exact ⟨r, rfl, h1⟩
theorem postPa_pan {t : List LTok} {x : PR (Sr × List Nat)} (v : Value) (h : postPa t x (.pan v)) : ∃ n, v = pvF n := by
 obtain ⟨a, r⟩ := x
 cases a with
 | some e =>
  obtain ⟨s', h, _⟩ := h
  cases h
 | none =>
  injection h with h
  exact ⟨_, h⟩
theorem pDecls_le (f : Nat) : ∀ (g : Nat) (l : List KT), (pDecls f g l).2.length ≤ l.length
 | 0, [] => Nat.le_refl _
 | _ + 1, [] => Nat.le_refl _
 | 0, y :: r => Nat.le_refl _
 | g + 1, y :: r => by
  rw [pDecls]
  exact bind_le (pDecl_le f (y :: r)) fun _ q h => bind_le (Nat.le_trans (pDecls_le f g q) h) fun _ _ h => h
theorem pSrc_le (f : Nat) (l : List KT) : (pSrc f l).2.length ≤ l.length := bind_le (pUses_le f l) fun _ q h => bind_le (Nat.le_trans (pDecls_le f f q) h) fun _ _ h => h
theorem uses_len : ∀ (f : Nat) (l r : List KT) (us : List ByteArray), pUses f l = (some us, r) → us.length + r.length ≤ l.length
 | 0, l, r, us, h => by cases h; simp
 | f + 1, l, r, us, h => by
  rw [pUses] at h
  split at h
  ·obtain ⟨a, q, h1, h⟩ := bind_get h
   obtain ⟨u, q2, h2, h⟩ := bind_get h
   obtain ⟨vs, q3, h3, h⟩ := bind_get h
   cases h
   have e1 := pLab_le l.tail
   rw [h1] at e1
   have e2 := eat_few h2
   have e3 := uses_len f _ _ _ h3
   simp only [List.length_tail] at e1
   rw [List.length_cons]
   omega
  ·cases h; simp
theorem decls_len (f : Nat) : ∀ (g : Nat) (l r : List KT) (ds : List (Dc × Nat)), pDecls f g l = (some ds, r) → ds.length + r.length ≤ l.length
 | 0, [], r, ds, h => by cases h; simp
 | _ + 1, [], r, ds, h => by cases h; simp
 | 0, y :: l, r, ds, h => by cases h
 | g + 1, y :: l, r, ds, h => by
  rw [pDecls] at h
  obtain ⟨d, q, h1, h⟩ := bind_get h
  obtain ⟨es, q2, h2, h⟩ := bind_get h
  cases h
  have e1 := pDecl_len h1
  have e2 := decls_len f g _ _ _ h2
  rw [List.length_cons]
  omega
theorem src_lens {f : Nat} {l r : List KT} {x : Sr} {ps : List Nat} (h : pSrc f l = (some (x, ps), r)) : x.uses.length ≤ l.length ∧ x.decls.length ≤ l.length := by
 unfold pSrc at h
 obtain ⟨us, q, h1, h⟩ := bind_get h
 obtain ⟨ds, q2, h2, h⟩ := bind_get h
 cases h
 have e1 := uses_len _ _ _ _ h1
 have e2 := decls_len _ _ _ _ _ h2
 simp only [List.length_map]
 omega
set_option maxRecDepth 100000 in
set_option maxHeartbeats 16000000 in
theorem pparse_c (s : ByteArray) : Con Tryz.prog 12 [.d (.raw (.string s))] (.tup [avS (parseP s).1, .d (.raw (.int .i64 (parseP s).2.1)), .d (.raw (.int .i64 (parseP s).2.2))]) := by
 obtain ⟨b1, b2, b3, b4, b5, b6⟩ := scan_bound s
 have csc := scan_c s
 have hP : parseP s = if ¬ (scanX s).2.2 = 0 then (sr0, (scanX s).2.1, (scanX s).2.2) else
   match pSrc ((scanX s).1.length + 1) ((scanX s).1.map kt) with
   | (none, r) => (sr0, if r.length = 0 then (s.size : Int) else posT (scanX s).1 ((scanX s).1.length - r.length), 3)
   | (some x, _) => if srcX sdeclX x.1 = 0 then (x.1, 0, 0) else if srcX sdeclX x.1 = 10 ∧ 0 ≤ unordX x.1 then (sr0, posT (scanX s).1 ((scanX s).1.length - x.2.getD (unordX x.1).toNat 0), 10) else (sr0, 0, srcX sdeclX x.1) := rfl
 generalize parseP s = R at hP ⊢
 obtain ⟨t, p, c, hx⟩ : ∃ t p c, scanX s = (t, p, c) := ⟨_, _, _, rfl⟩
 rw [hx] at b1 b2 b3 b4 b5 b6 csc hP
 simp only at b1 b2 b3 b4 b5 b6 csc hP
 refine con_ofX Tryz.func12 rfl (by decide +kernel) rfl rfl (by simp [Tryz.ntmps12]) fun A hA hX => ?_
 rw [Tryz.ntmps12] at hA
 refine goMid 300 [0, 2, 3, 4] [0] [] (fun σ => σ = (⟨[(0, .d (.raw (.string s))), (2, .box 0 0), (3, .d (.raw (.int .i64 0))), (4, .d (.raw (.int .i64 0)))], [(0, some srZ)], []⟩ : St)) (by simp only [go_sem, hA]) ?_
 rintro σ rfl
 refine goMid 300 [0, 2, 3, 4, 5, 6, 7] [0] [] (fun σ => σ = (⟨[(0, .d (.raw (.string s))), (2, .box 0 0), (3, .d (.raw (.int .i64 0))), (4, .d (.raw (.int .i64 0))), (5, .d (.sl (encTs t))), (6, .d (.raw (.int .i64 p))), (7, .d (.raw (.int .i64 c)))], [(0, some srZ)], []⟩ : St)) ?_ ?_
 ·simp only [go_sem, hA]
  refine goCall 300 csc rfl (by simp only [go_sem]) (by simp only [go_sem, hA]) ?_
  simp only [go_sem, hA]
 rintro σ rfl
 refine goMid 300 [0, 2, 3, 4, 5] [0] [] (fun σ => c = 0 ∧ σ = (⟨[(0, .d (.raw (.string s))), (2, .box 0 0), (3, .d (.raw (.int .i64 0))), (4, .d (.raw (.int .i64 0))), (5, .d (.sl (encTs t)))], [(0, some srZ)], []⟩ : St)) ?_ ?_
 ·by_cases hc : c = 0
  ·have g0 : (decide ¬c = 0) = false := decide_eq_false (by simpa using hc)
   simp only [go_sem, hA, g0]
   exact hc
  ·have g0 : (decide ¬c = 0) = true := decide_eq_true hc
   rw [if_pos hc] at hP
   simp only [go_sem, hA, g0, hP, avS0, Tryz.results12]
 rintro σ ⟨rfl, rfl⟩
 rw [if_neg (by simp)] at hP
 refine goC 10 ?_
 simp only [go_sem, hA]
 refine goAs 901 0 (by simp only [go_sem]) (by simp only [go_sem]; rfl) trivial (hX 901) rfl (by simp only [go_sem, hA]) ?_
 simp only [go_sem]
 refine goAs 902 8 (by simp only [go_sem]) (by simp only [go_sem]; rfl) trivial (hX 902) rfl (by simp only [go_sem, hA]) ?_
 simp only [go_sem]
 refine goAs 904 4 (by simp only [go_sem]) (by simp only [go_sem]; rfl) trivial (hX 904) rfl (by simp only [go_sem, hA]) ?_
 simp only [go_sem]
 refine goAs 905 2 (by simp only [go_sem]) (by simp only [go_sem]; rfl) trivial (hX 905) rfl (by simp only [go_sem, hA]) ?_
 simp only [go_sem]
 refine satC_stkCell 910 901 2 11 0 120 (hX 910) rfl rfl rfl ?_
 refine satC_stkCell 911 901 3 1 0 9 (hX 911) rfl rfl rfl ?_
 refine satC_stkCell 912 901 4 1 0 3 (hX 912) rfl rfl rfl ?_
 refine satC_stkCell 913 901 5 6 0 36 (hX 913) rfl rfl rfl ?_
 refine goMid 100600 [0, 2, 3, 4, 5, 9, 10, 11, 12] [0, 901, 902, 904, 905] [910, 911, 912, 913] (fun σ => ∃ e s', pSrc (t.length + 1) (t.map kt) = (some e, restK s') ∧ Rdy s' t ∧ σ = (⟨[(0, .d (.raw (.string s))), (2, .box 0 0), (3, .d (.raw (.int .i64 0))), (4, .d (.raw (.int .i64 0))), (5, .d (.sl (encTs t))), (9, .box 904 0), (10, .box 905 0), (11, .d (.raw (.int .i64 0))), (12, .d (.raw (.int .i64 0)))], [(0, some srZ), (901, some (rdBlk s')), (902, some rBox), (904, some (srB e.1)), (905, some (iB t e.2))], (rdL s').toks⟩ : St)) ?_ ?_
 ·simp only [go_sem, hA]
  refine goCallL [901, 902, 904, 905] [910, 911, 912, 913] 300 (try_con (parse1_c hN hM hI (rs0 t) t (rdy0 t (by omega))) postPa_pan) rfl rfl rfl rfl rfl (by simp only [go_sem, hA]) (fun res L' h => ?_) (fun pv h => ?_)
  rotate_left
  ·rcases h with ⟨_, _, h, _⟩ | ⟨_, h, _⟩ <;> cases h
  rcases postPa_cases h with ⟨e, s', e1, h, hS⟩ | ⟨r, e1, h⟩
  ·cases h
   simp only [go_sem, hA]
   exact ⟨e, s', e1, hS, rfl⟩
  ·cases h
   rw [show pSrc (t.length + 1) (t.map kt) = (none, r) from e1] at hP
   simp only at hP
   have hr : r.length ≤ t.length := by
    have h1 := pSrc_le (t.length + 1) (t.map kt)
    rw [show pSrc (t.length + 1) (t.map kt) = (none, r) from e1, List.length_map] at h1
    exact h1
   by_cases h0 : r.length = 0
   ·have g1 : decide (((t.length - r.length : Nat) : Int) = (t.length : Int)) = true := decide_eq_true (by omega)
    rw [if_pos h0] at hP
    simp only [go_sem, hA, ne30, encTs_length, g1, hP, avS0, Tryz.results12]
   ·have g1 : decide (((t.length - r.length : Nat) : Int) = (t.length : Int)) = false := decide_eq_false (by omega)
    rw [if_neg h0] at hP
    have hlt : t.length - r.length < t.length := by omega
    have hat := encTs_at t (t.length - r.length) hlt
    have hpos : posT t (t.length - r.length) = t[t.length - r.length].pos := by unfold posT; rw [List.getD_eq_getElem?_getD, List.getElem?_eq_getElem hlt]; rfl
    rw [hpos] at hP
    simp only [go_sem, hA, ne30, encTs_length, g1, hP, avS0, Int.toNat_natCast, hat, encT, mixed, Tryz.results12]
    exact ⟨⟨by omega, by omega⟩, by show chk _ _ _ = true; kernel_rfl⟩
 rintro σ ⟨⟨x, ps⟩, s', e1, hS, rfl⟩
 have hfew := src_few e1
 obtain ⟨hpl, hpa⟩ := src_at e1
 rw [List.length_map] at hfew hpa
 rw [e1] at hP
 simp only at hP
 refine goC 300 ?_
 simp only [go_sem, hA]
 refine goCall 300 (ssource_c x (fun d hd => Nat.le_trans (hfew d hd) (by omega))) rfl (by simp only [go_sem, avS]) (by simp only [go_sem, hA]) ?_
 by_cases h0 : srcX sdeclX x = 0
 ·rw [if_pos h0] at hP
  simp only [go_sem, hA, h0, hP, avS, Tryz.results12]
 have g0 : (decide ¬srcX sdeclX x = 0) = true := decide_eq_true h0
 rw [if_neg h0] at hP
 simp only [go_sem, hA, g0]
 obtain ⟨hl1, hl2⟩ := src_lens e1
 rw [List.length_map] at hl1 hl2
 refine goCall 300 (unordered_c x (by omega) (by omega)) rfl (by simp only [go_sem, avS]) (by simp only [go_sem, hA]) ?_
 obtain ⟨hu1, hu2⟩ := unord_lt x
 by_cases h10 : srcX sdeclX x = 10
 ·have g1 : decide (srcX sdeclX x = 10) = true := decide_eq_true h10
  by_cases hi : 0 ≤ unordX x
  ·rw [if_pos ⟨h10, hi⟩] at hP
   obtain ⟨i, hi2⟩ : ∃ i : Nat, unordX x = i := ⟨(unordX x).toNat, by omega⟩
   have hlt : i < ps.length := by have := (hu2 hi).2; omega
   have hn := hpa _ (List.getElem_mem hlt)
   rw [hi2, Int.toNat_natCast, List.getD_eq_getElem?_getD, List.getElem?_eq_getElem hlt, Option.getD_some] at hP
   have g2 : decide ((0 : Int) ≤ (i : Int)) = true := decide_eq_true (by omega)
   have q2 : (encIs (ps.map (plN t))).getD i [] = [.raw (.int .i64 ((t.length - ps[i] : Nat) : Int))] := by
    simp [encIs, List.getD_eq_getElem?_getD, hlt, plN]
   have hl : (encIs (ps.map (plN t))).length = ps.length := by simp [encIs]
   have hlt2 : t.length - ps[i] < t.length := by omega
   have hat := encTs_at t (t.length - ps[i]) hlt2
   have hpos : posT t (t.length - ps[i]) = t[t.length - ps[i]].pos := by unfold posT; rw [List.getD_eq_getElem?_getD, List.getElem?_eq_getElem hlt2]; rfl
   rw [hpos] at hP
   simp only [go_sem, hA, g2, hi2, h10, hP, avS0, encTs_length, hl, Int.toNat_natCast, q2, hat, encT, mixed, Tryz.results12]
   exact ⟨⟨by omega, by omega⟩, ⟨by omega, by omega⟩, by show chk _ _ _ = true; kernel_rfl⟩
  ·rw [if_neg fun h => hi h.2] at hP
   have g2 : decide ((0 : Int) ≤ unordX x) = false := decide_eq_false hi
   simp only [go_sem, hA, g1, g2, hP, avS0, Tryz.results12]
 ·have g1 : decide (srcX sdeclX x = 10) = false := decide_eq_false h10
  rw [if_neg fun h => h10 h.1] at hP
  simp only [go_sem, hA, g1, hP, avS0, undef, Tryz.results12]
end
section
open Go Go.RowKit
abbrev aw1 : ByteArray := ⟨#[108, 101, 116, 32, 102, 32, 61, 32, 40, 120, 32, 43, 32, 49, 32, 59]⟩
abbrev aw2 : ByteArray := ⟨#[108, 101, 116, 32, 102, 32, 61, 32, 40, 120]⟩
abbrev aw3 : ByteArray := ⟨#[108, 101, 116, 32, 97, 32, 64, 50, 32, 61, 32, 49, 32, 59, 32, 108, 101, 116, 32, 98, 32, 64, 49, 32, 61, 32, 50, 32, 59]⟩
abbrev aw4 : ByteArray := ⟨#[117, 115, 101, 32, 109, 32, 59, 32, 108, 101, 116, 32, 102, 32, 61, 32, 40, 120, 32, 43, 32, 49, 41, 32, 59]⟩
abbrev awX : Sr := ⟨[⟨#[109]⟩], [⟨0, 1, false, [⟨#[102]⟩], false, .mk 10 ⟨#[43]⟩ ⟨#[]⟩ 0 0 [.mk 3 ⟨#[120]⟩ ⟨#[]⟩ 0 0 [], .mk 1 ⟨#[]⟩ ⟨#[]⟩ 1 0 []]⟩]⟩
theorem aw1_p : parseP aw1 = (sr0, 15, 3) := by kernel_rfl
theorem aw2_p : parseP aw2 = (sr0, 10, 3) := by kernel_rfl
theorem aw3_p : parseP aw3 = (sr0, 19, 10) := by kernel_rfl
theorem aw4_p : parseP aw4 = (awX, 0, 0) := by kernel_rfl
set_option maxRecDepth 100000 in
set_option maxHeartbeats 16000000 in
theorem awake22_c : Con Tryz.prog 11 [] (.d (.raw (.bool true))) := by
 have c1 := pparse_c aw1
 have c2 := pparse_c aw2
 have c3 := pparse_c aw3
 have c4 := pparse_c aw4
 rw [aw1_p] at c1
 rw [aw2_p] at c2
 rw [aw3_p] at c3
 rw [aw4_p] at c4
 refine con_of Tryz.func11 rfl (by decide +kernel) rfl rfl (by simp [Tryz.ntmps11]) fun A hA => ?_
 rw [Tryz.ntmps11] at hA
 refine goC 300 ?_
 simp only [go_sem, hA]
 refine goCall 300 c1 rfl rfl (by simp only [go_sem, hA]) ?_
 simp only [go_sem, hA, avS]
 refine goCall 300 c2 rfl rfl (by simp only [go_sem, hA]) ?_
 simp only [go_sem, hA, avS]
 refine goCall 300 c3 rfl rfl (by simp only [go_sem, hA]) ?_
 simp only [go_sem, hA, avS]
 refine goCall 600 c4 rfl rfl (by simp only [go_sem, hA]) ?_
 simp only [go_sem, hA, avS, encS, encDs, encD, List.map_cons, List.map_nil, List.length_cons, List.length_nil, Ex.kind, Ex.name, Ex.more, Ex.int, Ex.den, Ex.sub, List.getD_cons_zero, List.drop_succ_cons, List.drop_zero, Tryz.results11]
end
section
open Go Go.RowKit
theorem itoa_len {i : Int} (h1 : -999999999 ≤ i) (h2 : i ≤ 999999999) : (Lib.itoa i).length ≤ 10 := (number_atoi (itoa_number h1 h2).1).2
theorem nm_len {n : ByteArray} (h : nameB n = true) : n.data.toList.length ≤ 24 := nameB_size h
set_option maxHeartbeats 1000000 in
theorem tx_len {t : Ex} (h : VT t) : (tx t).length ≤ 80 * nodesE t := by
 induction h with
 | int i h1 h2 =>
  have := itoa_len h1 h2
  rw [tx_1]; simp only [nodesE, nodesL]; omega
 | bool i hi =>
  rw [tx_2]; simp only [nodesE, nodesL]
  split
  ·show 4 ≤ _; omega
  ·show 5 ≤ _; omega
 | var n hn => have := nm_len hn; rw [tx_3]; simp only [nodesE, nodesL]; omega
 | dot n m hn hm => have := nm_len hn; have := nm_len hm; rw [tx_4]; simp only [nodesE, nodesL, List.length_append, List.length_cons, List.length_nil, Nat.zero_add, ← Nat.add_assoc]; omega
 | nil => rw [tx_11]; simp only [nodesE, nodesL]; show 3 ≤ _; omega
 | fn n a hn _ ih => have := nm_len hn; rw [tx_6]; simp only [wFun, nodesE, nodesL, List.length_append, List.length_cons, List.length_nil, Nat.zero_add, ← Nat.add_assoc]; omega
 | call a b _ _ iha ihb => rw [tx_7]; simp only [nodesE, nodesL, List.length_append, List.length_cons, List.length_nil, Nat.zero_add, ← Nat.add_assoc]; omega
 | letx n a b hn _ _ iha ihb => have := nm_len hn; rw [tx_8]; simp only [wLet, wIn, nodesE, nodesL, List.length_append, List.length_cons, List.length_nil, Nat.zero_add, ← Nat.add_assoc]; omega
 | ifx a b c _ _ _ iha ihb ihc => rw [tx_9]; simp only [wIf, wThen, wElse, nodesE, nodesL, List.length_append, List.length_cons, List.length_nil, Nat.zero_add, ← Nat.add_assoc]; omega
 | op n a b hn _ _ iha ihb =>
  obtain ⟨c, rfl, _, _⟩ := op_sign hn
  rw [tx_10]
  have : (⟨#[c]⟩ : ByteArray).data.toList.length = 1 := rfl
  simp only [nodesE, nodesL, List.length_append, List.length_cons, List.length_nil, this, Nat.zero_add, ← Nat.add_assoc]; omega
 | cons a b _ _ iha ihb => rw [tx_12]; simp only [nodesE, nodesL, List.length_append, List.length_cons, List.length_nil, Nat.zero_add, ← Nat.add_assoc]; omega
 | casex n m a b c hn hm _ _ _ _ iha ihb ihc => have := nm_len hn; have := nm_len hm; rw [tx_13]; simp only [wCase, wOf, wNil, nodesE, nodesL, List.length_append, List.length_cons, List.length_nil, Nat.zero_add, ← Nat.add_assoc]; omega
 | chance i d h1 h2 h3 h4 =>
  have := itoa_len (i := i) (by omega) (by omega)
  have := itoa_len (i := d) (by omega) (by omega)
  rw [tx_14]; simp only [wChance, wOf, nodesE, nodesL, List.length_append, List.length_cons, List.length_nil, Nat.zero_add, ← Nat.add_assoc]; omega
 | sum a b c _ _ _ iha ihb ihc => rw [tx_15]; simp only [wConflict, nodesE, nodesL, List.length_append, List.length_cons, List.length_nil, Nat.zero_add, ← Nat.add_assoc]; omega
theorem depth_tk {t : Ex} (h : VT t) : depthE t ≤ (tkE t).length := by
 induction h with
 | int i h1 h2 => simp [depthE, depthL, tkE, nodeToks]
 | bool i hi => simp [depthE, depthL, tkE, nodeToks]
 | var n hn => simp [depthE, depthL, tkE, nodeToks]
 | dot n m hn hm => simp [depthE, depthL, tkE, nodeToks]
 | nil => simp [depthE, depthL, tkE, nodeToks]
 | fn n a hn _ ih => simp [depthE, depthL, tkE, tkL, nodeToks, atT]; omega
 | call a b _ _ iha ihb => simp [depthE, depthL, tkE, tkL, nodeToks, atT]; omega
 | letx n a b hn _ _ iha ihb => simp [depthE, depthL, tkE, tkL, nodeToks, atT]; omega
 | ifx a b c _ _ _ iha ihb ihc => simp [depthE, depthL, tkE, tkL, nodeToks, atT]; omega
 | op n a b hn _ _ iha ihb => simp [depthE, depthL, tkE, tkL, nodeToks, atT]; omega
 | cons a b _ _ iha ihb => simp [depthE, depthL, tkE, tkL, nodeToks, atT]; omega
 | casex n m a b c hn hm _ _ _ _ iha ihb ihc => simp [depthE, depthL, tkE, tkL, nodeToks, atT]; omega
 | chance i d h1 h2 h3 h4 => simp [depthE, depthL, tkE, nodeToks]
 | sum a b c _ _ _ iha ihb ihc => simp [depthE, depthL, tkE, tkL, nodeToks, atT]; omega
theorem line_len {x : Dc} (h : OkD x) : (dLine x).size ≤ 80 * nodesE x.body + 150 := by
 have h1 := joinB_size [32] (dParts x)
 have h2 := h.nmsum
 have h3 := namesB_size x.names
 have h4 : (txE x.body).size ≤ 80 * nodesE x.body := tx_len h.vt
 have h6 := itoaB_size x.id (by have := h.id; unfold inI64; omega)
 have h7 := kindW_size x.kind
 have h8 : x.names.length ≤ 3 := by have := h.len; omega
 have h9 : sumB (dParts x) ≤ 8 + 3 + 5 + (namesB x.names).size + 22 + 1 + (txE x.body).size + 1 ∧ (dParts x).length ≤ 8 := by
  unfold dParts midD preD namesB
  simp only [sumB_append, List.length_append]
  refine ⟨?_, ?_⟩
  ·have a1 : sumB (if x.doubt = true then [bs [99, 111, 110, 102, 108, 105, 99, 116]] else []) ≤ 8 := by split <;> simp [sumB, bs_size]
   have a2 : sumB (if x.pub = true then [bs [112, 117, 98]] else []) ≤ 3 := by split <;> simp [sumB, bs_size]
   have a3 : sumB (if x.id = 0 then [] else [bs [64] ++ itoaB x.id]) ≤ 22 := by
    split
    ·simp [sumB]
    ·simp only [sumB, ba_size, bs_size, List.length_cons, List.length_nil]; omega
   simp only [sumB, bs_size, List.length_cons, List.length_nil] at a1 a2 a3 ⊢
   omega
  ·have a1 : (if x.doubt = true then [bs [99, 111, 110, 102, 108, 105, 99, 116]] else []).length ≤ 1 := by split <;> simp
   have a2 : (if x.pub = true then [bs [112, 117, 98]] else []).length ≤ 1 := by split <;> simp
   have a3 : (if x.id = 0 then [] else [bs [64] ++ itoaB x.id]).length ≤ 1 := by split <;> simp
   simp only [List.length_cons, List.length_nil] at a1 a2 a3 ⊢
   omega
 simp only [List.length_cons, List.length_nil] at h1
 unfold dLine
 rw [ba_size, bs_size]
 show (joinB (dParts x) [32]).size + 1 ≤ _
 omega
theorem names_few {l r : List KT} {ns : List ByteArray} (h : pNames l = (some ns, r)) : r.length + 1 ≤ l.length := by
 have eS : ∀ {l r : List KT} {a : ByteArray}, pSide l = (some a, r) → r.length + 1 ≤ l.length := fun {l r a} h => by
  cases l with
  | nil => cases h
  | cons y q =>
   rw [pSide] at h
   split at h
   ·cases h; simp
   ·have := name_few h; omega
 unfold pNames at h
 obtain ⟨a, s1, g1, h⟩ := bind_get h
 have := eS g1
 split at h
 ·cases h; exact this
 ·obtain ⟨_, s2, g2, h⟩ := bind_get h
  obtain ⟨_, s3, g3, h⟩ := bind_get h
  obtain ⟨_, s4, g4, h⟩ := bind_get h
  obtain ⟨_, s5, g5, h⟩ := bind_get h
  have := eat_few g2
  have := eS g3
  have := eat_few g4
  have := eS g5
  cases h
  omega
theorem id_few {l r : List KT} {i : Int} (h : pId l = (some i, r)) : r.length ≤ l.length := by
 unfold pId at h
 split at h
 ·cases hq : l.tail with
  | nil => rw [hq] at h; cases h
  | cons y s =>
   rw [hq, pPos] at h
   have : (y :: s).length ≤ l.length := by rw [← hq, List.length_tail]; omega
   split at h
   ·cases h; rw [List.length_cons] at this; omega
   ·cases h
 ·cases h; exact Nat.le_refl _
theorem decl_count {f : Nat} {l r : List KT} {x : Dc} {n : Nat} (h : pDecl f l = (some (x, n), r)) : nodesE x.body + 4 + r.length ≤ l.length := by
 unfold pDecl pBody at h
 obtain ⟨k, q1, h1, h⟩ := bind_get h
 obtain ⟨ns, q2, h2, h⟩ := bind_get h
 obtain ⟨i, q3, h3, h⟩ := bind_get h
 obtain ⟨u4, q4, h4, h⟩ := bind_get h
 obtain ⟨e, q5, h5, h⟩ := bind_get h
 obtain ⟨u6, q6, h6, h⟩ := bind_get h
 have e0 : (pFlag wPub (pFlag wConflict l).2).2.length ≤ l.length := by
  unfold pFlag
  repeat' split
  all_goals simp only [List.length_tail]
  all_goals omega
 have := kind_few h1
 have := names_few h2
 have := id_few h3
 have := eat_few h4
 have := pE_few f _ _ _ h5
 have := eat_few h6
 cases h
 simp only
 omega
theorem decls_count (f : Nat) : ∀ (g : Nat) (l r : List KT) (ds : List (Dc × Nat)), pDecls f g l = (some ds, r) → (ds.map fun d => nodesE d.1.body + 4).sum + r.length ≤ l.length
 | 0, [], r, ds, h => by cases h; simp
 | _ + 1, [], r, ds, h => by cases h; simp
 | 0, y :: l, r, ds, h => by cases h
 | g + 1, y :: l, r, ds, h => by
  rw [pDecls] at h
  obtain ⟨d, q, h1, h⟩ := bind_get h
  obtain ⟨es, q2, h2, h⟩ := bind_get h
  cases h
  have e1 := decl_count (x := d.1) (n := d.2) h1
  have e2 := decls_count f g _ _ _ h2
  rw [List.map_cons, List.sum_cons]
  omega
theorem uses_count : ∀ (f : Nat) (l r : List KT) (us : List ByteArray), pUses f l = (some us, r) → 3 * us.length + r.length ≤ l.length
 | 0, l, r, us, h => by cases h; simp
 | f + 1, l, r, us, h => by
  rw [pUses] at h
  split at h
  ·rename_i hh
   obtain ⟨a, q, h1, h⟩ := bind_get h
   obtain ⟨u, q2, h2, h⟩ := bind_get h
   obtain ⟨vs, q3, h3, h⟩ := bind_get h
   cases h
   have e0 : l.tail.length + 1 = l.length := by
    cases l with
    | nil => cases hh
    | cons y r => rfl
   have e1 : q.length + 1 = l.tail.length := by
    cases hl : l.tail with
    | nil => rw [hl] at h1; cases h1
    | cons y r =>
     rw [hl, pLab] at h1
     split at h1 <;> cases h1
     rfl
   have e2 := eat_few h2
   have e3 := uses_count f _ _ _ h3
   rw [List.length_cons]
   omega
  ·cases h; simp
theorem src_count {f : Nat} {l r : List KT} {x : Sr} {ps : List Nat} (h : pSrc f l = (some (x, ps), r)) : 3 * x.uses.length + (x.decls.map fun d => nodesE d.body + 4).sum ≤ l.length := by
 unfold pSrc at h
 obtain ⟨us, q, h1, h⟩ := bind_get h
 obtain ⟨ds, q2, h2, h⟩ := bind_get h
 cases h
 have e1 := uses_count _ _ _ _ h1
 have e2 := decls_count _ _ _ _ _ h2
 rw [List.map_map]
 simp only [Function.comp_def]
 omega
theorem text_len {x : Sr} (h : OkSr x) : (catL (srcParts x)).length ≤ 80 * (3 * x.uses.length + (x.decls.map fun d => nodesE d.body + 4).sum) := by
 rw [catL_length]
 unfold srcParts
 rw [sumB_append]
 have h1 := sumB_le (n := 97) (x.uses.map useB) fun s hs => by
  obtain ⟨t, ht, rfl⟩ := List.mem_map.1 hs
  have := label_size (h.lab t ht)
  simp only [useB, ba_size, bs_size, List.length_cons, List.length_nil]
  omega
 rw [List.length_map] at h1
 have h2 : ∀ l : List Dc, (∀ d ∈ l, OkD d) → sumB (l.map dLine) ≤ 80 * (l.map fun d => nodesE d.body + 4).sum := fun l => by
  induction l with
  | nil => intro _; simp [sumB]
  | cons d l ih =>
   intro hl
   have e1 := line_len (hl d (by simp))
   have e2 := ih fun y hy => hl y (by simp [hy])
   simp only [List.map_cons, sumB, List.sum_cons]
   omega
 have := h2 _ h.dec
 omega
theorem tkS_len (x : Sr) : 3 * x.uses.length ≤ (tkS x).length ∧ x.decls.length ≤ (tkS x).length ∧ ∀ d ∈ x.decls, (tkE d.body).length ≤ (tkS x).length := by
 have h1 : ∀ l : List ByteArray, ((l.map tkU).flatten).length = 3 * l.length := fun l => by
  induction l with
  | nil => rfl
  | cons a l ih =>
   rw [List.map_cons, List.flatten_cons, List.length_append, ih]
   simp only [tkU, List.length_cons, List.length_nil]; omega
 have h0 : ∀ d : Dc, (tkE d.body).length + 1 ≤ (tkD d).length := fun d => by
  unfold tkD tkB
  simp only [List.length_append, List.length_cons, List.length_nil]; omega
 have h2 : ∀ l : List Dc, l.length ≤ ((l.map tkD).flatten).length ∧ ∀ d ∈ l, (tkE d.body).length ≤ ((l.map tkD).flatten).length := fun l => by
  induction l with
  | nil => exact ⟨Nat.le_refl _, fun d hd => by cases hd⟩
  | cons a l ih =>
   rw [List.map_cons, List.flatten_cons, List.length_append]
   have := h0 a
   refine ⟨by rw [List.length_cons]; omega, fun d hd => ?_⟩
   rcases List.mem_cons.1 hd with rfl | hd
   ·omega
   ·have := ih.2 d hd; omega
 unfold tkS
 rw [List.length_append, h1]
 obtain ⟨e1, e2⟩ := h2 x.decls
 exact ⟨by omega, by omega, fun d hd => by have := e2 d hd; omega⟩
theorem parse_toks {x : Sr} (h : OkSr x) {us : List LTok} (hu : us.map kt = tkS x) : ∃ ps, pSrc (us.length + 1) (us.map kt) = (some (x, ps), []) := by
 obtain ⟨e1, e2, e3⟩ := tkS_len x
 have hl : us.length = (tkS x).length := by rw [← hu, List.length_map]
 rw [hu]
 exact pSrc_tk h (by omega) (by omega) fun d hd => by
  have := depth_tk (h.dec d hd).vt
  have := e3 d hd
  omega
theorem parse_text {x : Sr} (h : srcX sdeclX x = 0) {s : ByteArray} (hs : s.size ≤ 65536) {us : List LTok} (hu : scanAll s.data.toList = (us, none)) (hk : us.map kt = tkS x) : parseP s = (x, 0, 0) := by
 have hx : scanX s = (us, 0, 0) := by unfold scanX; rw [if_neg (by omega), hu]
 obtain ⟨ps, hp⟩ := parse_toks (src_ok h) hk
 unfold parseP
 rw [hx]
 simp only
 rw [if_neg (by simp), hp]
 simp only
 rw [if_pos h]
theorem parse_back {x : Sr} (h : srcX sdeclX x = 0) (hl : (catL (srcParts x)).length ≤ 65536) : parseP ⟨(catL (srcParts x)).toArray⟩ = (x, 0, 0) := by
 obtain ⟨us, h1, h2⟩ := sc_scan (sc_source (src_ok h) [])
 exact parse_text h (by show (catL (srcParts x)).toArray.size ≤ _; simpa using hl) h1 h2
theorem parse_cases (s : ByteArray) : ((parseP s).2.2 = 0 ∧ (parseP s).2.1 = 0 ∧ srcX sdeclX (parseP s).1 = 0 ∧ 3 * (parseP s).1.uses.length + ((parseP s).1.decls.map fun d => nodesE d.body + 4).sum ≤ s.size ∧ ∀ d ∈ (parseP s).1.decls, nodesE d.body ≤ 65536) ∨ (¬ (parseP s).2.2 = 0 ∧ (parseP s).1 = ⟨[], []⟩ ∧ 0 ≤ (parseP s).2.1 ∧ (parseP s).2.1 ≤ s.size) := by
 obtain ⟨b1, b2, b3, b4, b5, b6⟩ := scan_bound s
 have hpos : ∀ i, 0 ≤ posT (scanX s).1 i ∧ posT (scanX s).1 i ≤ s.size := fun i => by
  unfold posT
  rw [List.getD_eq_getElem?_getD]
  cases hg : (scanX s).1[i]? with
  | none => exact ⟨Int.le_refl _, by simp only [Option.getD_none]; omega⟩
  | some y => exact b3 y (List.mem_of_getElem? hg)
 unfold parseP
 by_cases hc : (scanX s).2.2 = 0
 case neg =>
  rw [if_pos hc]
  exact .inr ⟨hc, rfl, b4, b5⟩
 rw [if_neg (by simpa using hc)]
 cases hp : pSrc ((scanX s).1.length + 1) ((scanX s).1.map kt) with
 | mk a r =>
  cases a with
  | none =>
   refine .inr ⟨show ¬ (3 : Int) = 0 by decide, rfl, ?_⟩
   simp only
   split
   ·exact ⟨by omega, Int.le_refl _⟩
   ·exact hpos _
  | some xp =>
   obtain ⟨x, ps⟩ := xp
   have h1 := src_count hp
   have h2 := src_few hp
   rw [List.length_map] at h1 h2
   simp only
   by_cases h0 : srcX sdeclX x = 0
   ·rw [if_pos h0]
    exact .inl ⟨rfl, rfl, h0, by simp only; omega, fun d hd => by have := h2 d hd; omega⟩
   ·rw [if_neg h0]
    split
    ·exact .inr ⟨show ¬ (10 : Int) = 0 by decide, rfl, hpos _⟩
    ·exact .inr ⟨h0, rfl, Int.le_refl _, by simp only; omega⟩
end
section
open Go Go.RowKit
def sameDc (x y : Dc) : Bool := decide (x.id = y.id) && (decide (x.kind = y.kind) && ((x.pub == y.pub) && ((x.doubt == y.doubt) && (sameS x.names y.names && sameE x.body y.body))))
theorem sameDc_iff (x y : Dc) : sameDc x y = true ↔ x = y := by
 obtain ⟨a1, a2, a3, a4, a5, a6⟩ := x
 obtain ⟨b1, b2, b3, b4, b5, b6⟩ := y
 simp only [sameDc, Bool.and_eq_true, decide_eq_true_eq, beq_iff_eq, sameS_iff, sameE_iff, Dc.mk.injEq]
 exact ⟨fun ⟨h1, h2, h3, h4, h5, h6⟩ => ⟨h1, h2, h3, h5, h4, h6⟩, fun ⟨h1, h2, h3, h5, h4, h6⟩ => ⟨h1, h2, h3, h4, h5, h6⟩⟩
def sameDs : List Dc → List Dc → Bool
 | [], [] => true
 | x :: xs, y :: ys => sameDc x y && sameDs xs ys
 | _, _ => false
theorem sameDs_iff : ∀ a b : List Dc, sameDs a b = true ↔ a = b
 | [], [] => by simp [sameDs]
 | x :: xs, y :: ys => by simp only [sameDs, Bool.and_eq_true, sameDc_iff, sameDs_iff xs ys, List.cons.injEq]
 | [], y :: ys => by simp [sameDs]
 | x :: xs, [] => by simp [sameDs]
theorem sameDs_false {a b : List Dc} (h : a ≠ b) : sameDs a b = false := by
 cases hc : sameDs a b
 ·rfl
 ·exact absurd ((sameDs_iff a b).1 hc) h
def sameSr (x y : Sr) : Bool := sameS x.uses y.uses && sameDs x.decls y.decls
theorem sameSr_iff (x y : Sr) : sameSr x y = true ↔ x = y := by
 obtain ⟨a1, a2⟩ := x
 obtain ⟨b1, b2⟩ := y
 simp only [sameSr, Bool.and_eq_true, sameS_iff, sameDs_iff, Sr.mk.injEq]
set_option maxRecDepth 100000 in
set_option maxHeartbeats 8000000 in
theorem rSameDecl_c (x y : Dc) (hb : nodesE x.body ≤ 1048576) (hn : x.names.length ≤ 1048576) : Con Tryz.prog 73 [avD x, avD y] (.d (.raw (.bool (sameDc x y)))) := by
 have cs := rSameStrings_c x.names y.names hn
 have ce := rSame_c x.body y.body (by omega)
 refine con_of Tryz.func73 rfl (by decide +kernel) rfl rfl (by simp [Tryz.ntmps73]) fun A hA => ?_
 rw [Tryz.ntmps73] at hA
 refine goC 400 ?_
 have he : sameDc x y = (decide (x.id = y.id) && (decide (x.kind = y.kind) && ((x.pub == y.pub) && ((x.doubt == y.doubt) && (sameS x.names y.names && sameE x.body y.body))))) := rfl
 cases g1 : decide (x.id = y.id) with
 | false =>
  rw [g1] at he
  simp only [Bool.false_and] at he
  simp only [go_sem, hA, avD, g1, undef, he, Tryz.results73]
 | true =>
 cases g2 : decide (x.kind = y.kind) with
 | false =>
  rw [g1, g2] at he
  simp only [Bool.false_and, Bool.true_and] at he
  simp only [go_sem, hA, avD, g1, g2, undef, he, Tryz.results73]
 | true =>
 cases g3 : (x.pub == y.pub) with
 | false =>
  rw [g1, g2, g3] at he
  simp only [Bool.false_and, Bool.true_and] at he
  simp only [go_sem, hA, avD, g1, g2, g3, undef, he, Tryz.results73]
 | true =>
 cases g4 : (x.doubt == y.doubt) with
 | false =>
  rw [g1, g2, g3, g4] at he
  simp only [Bool.false_and, Bool.true_and] at he
  simp only [go_sem, hA, avD, g1, g2, g3, g4, undef, he, Tryz.results73]
 | true =>
 rw [g1, g2, g3, g4] at he
 simp only [Bool.true_and] at he
 simp only [go_sem, hA, avD, g1, g2, g3, g4]
 refine goCall 300 cs rfl (by simp only [go_sem]) (by simp only [go_sem, hA]) ?_
 cases g5 : sameS x.names y.names with
 | false =>
  rw [g5] at he
  simp only [Bool.false_and] at he
  simp only [go_sem, hA, undef, he, Tryz.results73]
 | true =>
  rw [g5] at he
  simp only [Bool.true_and] at he
  simp only [go_sem, hA]
  refine goCall 300 ce rfl (by simp only [go_sem, avE_eq]) (by simp only [go_sem, hA]) ?_
  cases g6 : sameE x.body y.body <;> rw [g6] at he <;> simp only [go_sem, hA, he, Tryz.results73]
abbrev smdSt (l m : List Dc) (q : Nat) : St := ⟨[(0, .d (.sl (encDs l))), (1, .d (.sl (encDs m))), (5, .d (.raw (.int .i64 q)))], [], []⟩
set_option maxRecDepth 100000 in
set_option maxHeartbeats 8000000 in
theorem rSameDecls_c (l m : List Dc) (hl : l.length ≤ 1048576) (hb : ∀ d ∈ l, nodesE d.body ≤ 1048576 ∧ d.names.length ≤ 1048576) : Con Tryz.prog 37 [.d (.sl (encDs l)), .d (.sl (encDs m))] (.d (.raw (.bool (sameDs l m)))) := by
 refine con_of Tryz.func37 rfl (by decide +kernel) rfl rfl (by simp [Tryz.ntmps37]) fun A hA => ?_
 rw [Tryz.ntmps37] at hA
 refine goC 300 ?_
 by_cases hlm : l.length = m.length
 ·have g0 : (decide ¬ (l.length : Int) = (m.length : Int)) = false := decide_eq_false (by omega)
  simp only [go_sem, hA, encDs_length, g0]
  refine satC_loop [0, 1, 5] [] [] (fun x σ => ∃ q : Nat, q ≤ l.length ∧ x = l.length - q ∧ l.take q = m.take q ∧ σ = smdSt l m q) l.length ⟨0, by omega, by omega, rfl, by simp only [go_sem, smdSt]⟩ ?_
  rintro x σ ⟨q, hq, rfl, hf, rfl⟩
  refine goC 400 ?_
  by_cases hlt : q < l.length
  ·have g1 : decide ((q : Int) < (l.length : Int)) = true := decide_eq_true (by omega)
   have hq2 : q < m.length := by omega
   obtain ⟨hb1, hb2⟩ := hb l[q] (List.getElem_mem hlt)
   have cs := rSameDecl_c l[q] m[q] hb1 hb2
   obtain ⟨d, hd⟩ : ∃ d, l[q] = d := ⟨_, rfl⟩
   obtain ⟨e, he⟩ : ∃ e, m[q] = e := ⟨_, rfl⟩
   rw [hd, he] at cs
   simp only [go_sem, hA, smdSt, encDs_length, g1, Int.toNat_natCast, encDs_at l q hlt, encDs_at m q hq2, hd, he, encD, mixed]
   refine ⟨⟨by omega, by omega⟩, ⟨by omega, by omega⟩, ?_⟩
   refine goCallD 300 cs rfl (by simp only [go_sem, avD]) (by simp only [go_sem, hA]) ?_
   cases hs : sameDc d e with
   | true =>
    have hde := (sameDc_iff d e).1 hs
    simp only [go_sem, hA]
    exact ⟨by show chk _ _ _ = true; kernel_rfl, by unfold inI64; omega, l.length - (q + 1), by omega, q + 1, by omega, rfl, by rw [List.take_succ_eq_append_getElem hlt, List.take_succ_eq_append_getElem hq2, hf, hd, he, hde], rfl⟩
   | false =>
    have hne : sameDs l m = false := sameDs_false fun e' => by
     subst e'
     rw [hd] at he
     rw [(sameDc_iff d e).2 he] at hs
     cases hs
    simp only [go_sem, hA, hne, Tryz.results37]
    exact by show chk _ _ _ = true; kernel_rfl
  ·have g1 : decide ((q : Int) < (l.length : Int)) = false := decide_eq_false (by omega)
   obtain rfl : q = l.length := by omega
   have he : l = m := by rw [List.take_length, List.take_of_length_le (by omega)] at hf; exact hf
   have hs : sameDs l m = true := (sameDs_iff _ _).2 he
   simp only [go_sem, hA, smdSt, encDs_length, g1, Tryz.results37, hs]
 ·have g0 : (decide ¬ (l.length : Int) = (m.length : Int)) = true := decide_eq_true (by omega)
  have hne : sameDs l m = false := sameDs_false fun e => hlm (by rw [e])
  simp only [go_sem, hA, encDs_length, g0, Tryz.results37, hne]
set_option maxRecDepth 100000 in
set_option maxHeartbeats 8000000 in
theorem rSameSource_c (x y : Sr) (hu : x.uses.length ≤ 1048576) (hl : x.decls.length ≤ 1048576) (hb : ∀ d ∈ x.decls, nodesE d.body ≤ 1048576 ∧ d.names.length ≤ 1048576) : Con Tryz.prog 14 [avS x, avS y] (.d (.raw (.bool (sameSr x y)))) := by
 have cu := rSameStrings_c x.uses y.uses hu
 have cd := rSameDecls_c x.decls y.decls hl hb
 refine con_of Tryz.func14 rfl (by decide +kernel) rfl rfl (by simp [Tryz.ntmps14]) fun A hA => ?_
 rw [Tryz.ntmps14] at hA
 refine goC 400 ?_
 simp only [go_sem, hA, avS]
 refine goCall 300 cu rfl (by simp only [go_sem]) (by simp only [go_sem, hA]) ?_
 cases h : sameS x.uses y.uses with
 | false =>
  have hr : sameSr x y = false := by unfold sameSr; rw [h]; rfl
  simp only [go_sem, hA, undef, hr, Tryz.results14]
 | true =>
  have hr : sameSr x y = sameDs x.decls y.decls := by unfold sameSr; rw [h]; rfl
  simp only [go_sem, hA]
  refine goCall 300 cd rfl (by simp only [go_sem]) (by simp only [go_sem, hA]) ?_
  cases h2 : sameDs x.decls y.decls <;> rw [h2] at hr <;> simp only [go_sem, hA, hr, Tryz.results14]
end
end Go.Proofs.YtnnolijagpakiaaGreatDoor
