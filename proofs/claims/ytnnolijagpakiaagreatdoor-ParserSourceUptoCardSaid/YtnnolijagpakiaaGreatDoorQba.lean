/- Texts of this proof, part 27: what the proof uses of them. -/
import Derived.Test.YtnnolijagpakiaaGreatDoorQaz
import Derived.Test.YtnnolijagpakiaaGreatDoorQay
import Derived.Test.YtnnolijagpakiaaGreatDoorQan
import Derived.Test.YtnnolijagpakiaaGreatDoorQav
import Derived.Test.YtnnolijagpakiaaGreatDoorQao
import Derived.Test.YtnnolijagpakiaaGreatDoorQam
namespace Go.Proofs.YtnnolijagpakiaaGreatDoor
section
section
open Go Go.RowKit
abbrev srG (us : List ByteArray) (ds : List Dc) : Blk := .cell 26 [.grow 98 (encS us), .grow 99 (encDs ds)]
abbrev saSt (t : List LTok) (c : Cur) (us : List ByteArray) : St := ⟨[(1, .box 0 0), (2, .box 1 0), (3, .d nilD), (4, .box 3 0), (5, .box 1001 0)], [(0, some (curB t c)), (1, some srZ), (3, some curZ), (1001, some (srG us []))], [(98, some ⟨1, 9, us.length, none⟩), (99, some ⟨11, 57, 0, none⟩)]⟩
abbrev sbSt (t : List LTok) (c : Cur) (us : List ByteArray) (ds : List Dc) (ps : List Int) : St := ⟨[(1, .box 0 0), (2, .box 1 0), (3, .d nilD), (4, .box 3 0), (5, .box 1001 0), (7, .grow 7000 (encIs ps))], [(0, some (curB t c)), (1, some srZ), (3, some curZ), (1001, some (srG us ds))], [(7000, some ⟨1, 3, ps.length, none⟩), (98, some ⟨1, 9, us.length, none⟩), (99, some ⟨11, 57, ds.length, none⟩)]⟩
theorem uses_t {f : Nat} {c : Cur} (h : cTok c = wd wUse) : cUses (f + 1) c = (bsL (cTok (cNext true c)).2 :: (cUses f (skipX [⟨#[59]⟩] (cNext (labelT (cTok (cNext true c))) (cNext true c)))).1, (cUses f (skipX [⟨#[59]⟩] (cNext (labelT (cTok (cNext true c))) (cNext true c)))).2) := by
 rw [cUses, if_pos h]; rfl
theorem uses_f {f : Nat} {c : Cur} (h : ¬ cTok c = wd wUse) : cUses f c = ([], c) := by
 cases f with
 | zero => rfl
 | succ f => rw [cUses, if_neg h]
theorem decls_f {pe : Cur → Ex × Cur} {k : Nat} {c : Cur} (h : (c.2 || c.1.isEmpty) = true) (hk : k = 0 → c.2 = true) : cDecls pe k c = ([], c) := by
 cases k with
 | zero =>
  obtain ⟨l, b⟩ := c
  cases (hk rfl : b = true)
  rfl
 | succ k => rw [cDecls, if_pos h]
theorem decls_t {pe : Cur → Ex × Cur} {k : Nat} {c : Cur} (h : (c.2 || c.1.isEmpty) = false) : cDecls pe (k + 1) c = ((cDecl pe c).1 :: (cDecls pe k (cDecl pe c).2).1, (cDecls pe k (cDecl pe c).2).2) := by
 rw [cDecls, if_neg (by rw [h]; decide)]; rfl
theorem word_short {c : Cur} {s : List UInt8} (h : cTok c = wd s) : (cNext true c).1.length + 1 = c.1.length := by
 obtain ⟨l, b⟩ := c
 cases b with
 | true => rw [cTok_bad] at h; cases h
 | false =>
  cases l with
  | nil => rw [cTok_nil] at h; cases h
  | cons y r => rfl
set_option maxRecDepth 100000 in
set_option maxHeartbeats 32000000 in
theorem csource {t : List LTok} {c : Cur} (h : Sit t c) :
  Con Tryz.prog 32 [avX t c] (.tup [avS (cSrc (t.length + 1) c).1.1, .d (.sl (encIs ((cSrc (t.length + 1) c).1.2.map (plN t)))), avX t (cSrc (t.length + 1) c).2]) ∧ Sit t (cSrc (t.length + 1) c).2 := by
 have hfw := h.few
 have hle := h.le
 have hU : ∀ k c1, Sit t c1 → Sit t (cUses k c1).2 ∧ (cUses k c1).2.1.length ≤ c1.1.length := by
  intro k
  induction k with
  | zero => exact fun c1 h => ⟨h, Nat.le_refl _⟩
  | succ k ih =>
   intro c1 h1
   by_cases e : cTok c1 = wd wUse
   ·rw [uses_t e]
    obtain ⟨_, a1, b1⟩ := next_kt h1 true
    obtain ⟨_, a2, b2⟩ := next_kt a1 (labelT (cTok (cNext true c1)))
    obtain ⟨a3, b3⟩ := skipX_sit [⟨#[59]⟩] _ a2
    obtain ⟨a4, b4⟩ := ih _ a3
    exact ⟨a4, by simp only; omega⟩
   ·rw [uses_f e]; exact ⟨h1, Nat.le_refl _⟩
 have hp := cexpr t (t.length + 1)
 have hDl : ∀ c1, Sit t c1 → c1.2 = false → (cDecl (rE (t.length + 1)) c1).2.2 = true ∨ (cDecl (rE (t.length + 1)) c1).2.1.length < c1.1.length := by
  rintro ⟨l, b⟩ h1 hb
  simp only at hb
  subst hb
  have hr := rl_decl (t.length + 1) l
  cases hp : pDecl (t.length + 1) l with
  | mk a r =>
   rw [hp] at hr
   cases a with
   | none => left; rw [show (cDecl (rE (t.length + 1)) (l, false)).2 = (r, true) from hr]
   | some d => right; rw [show cDecl (rE (t.length + 1)) (l, false) = (d, (r, false)) from hr]; exact pDecl_len hp
 have hD : ∀ k c1, Sit t c1 → Sit t (cDecls (rE (t.length + 1)) k c1).2 := by
  intro k
  induction k with
  | zero => exact fun c1 h => ⟨h.le, h.eq, h.few⟩
  | succ k ih =>
   intro c1 h1
   rw [cDecls]
   split
   ·exact h1
   ·have hl1 := h1.le
    exact ih _ ((cdecl hp c1 h1 (by omega)).2.1)
 have hS : cSrc (t.length + 1) c = ((⟨(cUses (t.length + 1) c).1, (cDecls (rE (t.length + 1)) (t.length + 1) (cUses (t.length + 1) c).2).1.map Prod.fst⟩, (cDecls (rE (t.length + 1)) (t.length + 1) (cUses (t.length + 1) c).2).1.map Prod.snd), (cDecls (rE (t.length + 1)) (t.length + 1) (cUses (t.length + 1) c).2).2) := rfl
 rw [hS]
 obtain ⟨hU1, hU2⟩ := hU (t.length + 1) c h
 refine ⟨?_, hD _ _ hU1⟩
 simp only
 have hUe : cUses (t.length + 1) c = ((cUses (t.length + 1) c).1, (cUses (t.length + 1) c).2) := rfl
 generalize (cUses (t.length + 1) c).1 = US at hUe ⊢
 generalize (cUses (t.length + 1) c).2 = cU at hUe hU1 hU2 ⊢
 have hDe : cDecls (rE (t.length + 1)) (t.length + 1) cU = ((cDecls (rE (t.length + 1)) (t.length + 1) cU).1, (cDecls (rE (t.length + 1)) (t.length + 1) cU).2) := rfl
 generalize (cDecls (rE (t.length + 1)) (t.length + 1) cU).1 = DS at hDe ⊢
 generalize (cDecls (rE (t.length + 1)) (t.length + 1) cU).2 = cD at hDe ⊢
 rw [List.map_map]
 refine con_of Tryz.func32 rfl (by decide +kernel) rfl rfl (by simp [Tryz.ntmps32]) fun A hA => ?_
 rw [Tryz.ntmps32] at hA
 refine goMid 300 [1, 2, 3, 4] [0, 1, 3] [] (fun σ => σ = (⟨[(1, .box 0 0), (2, .box 1 0), (3, .d nilD), (4, .box 3 0)], [(0, some (curB t c)), (1, some srZ), (3, some curZ)], []⟩ : St)) (by simp only [go_sem, hA]) ?_
 rintro σ rfl
 refine goMid 300 [1, 2, 3, 4, 5] [0, 1, 3, 1001] [] (fun σ => σ = (⟨[(1, .box 0 0), (2, .box 1 0), (3, .d nilD), (4, .box 3 0), (5, .box 1001 0)], [(0, some (curB t c)), (1, some srZ), (3, some curZ), (1001, some srZ)], []⟩ : St)) (by simp only [go_sem, hA]) ?_
 rintro σ rfl
 refine satC_growCell 98 1001 0 1 9 (by simp only [go_sem]) rfl rfl ?_
 refine satC_growCell 99 1001 1 11 57 (by simp only [go_sem]) rfl rfl ?_
 refine goMid 400 [1, 2, 3, 4, 5] [0, 1, 3, 1001] [98, 99] (fun σ => σ = saSt t cU US) ?_ ?_
 ·simp only [go_sem]
  refine satC_loop [1, 2, 3, 4, 5] [0, 1, 3, 1001] [98, 99] (fun n σ => ∃ k us c1, n = c1.1.length ∧ n < k ∧ us.length + n ≤ t.length ∧ (US, cU) = (us ++ (cUses k c1).1, (cUses k c1).2) ∧ Sit t c1 ∧ σ = saSt t c1 us) c.1.length ⟨t.length + 1, [], c, rfl, by omega, by simp only [List.length_nil]; omega, by rw [List.nil_append, ← hUe], h, by simp only [go_sem]; rfl⟩ ?_
  rintro n σ ⟨k, us, c1, rfl, hk, hus, hp, h1, rfl⟩
  obtain ⟨k, rfl⟩ : ∃ k', k = k' + 1 := ⟨k - 1, by omega⟩
  have w1 : Con Tryz.prog 65 [avX t c1, .d (.raw (.string ⟨#[117, 115, 101]⟩))] (.d (.raw (.bool (decide (cTok c1 = wd wUse))))) := cword h1 ⟨#[117, 115, 101]⟩
  refine goC 400 ?_
  simp only [go_sem, hA]
  refine goCall 400 w1 rfl (by simp only [go_sem]) (by simp only [go_sem, hA]) ?_
  by_cases e1 : cTok c1 = wd wUse
  ·have k1 : decide (cTok c1 = wd wUse) = true := decide_eq_true e1
   have hsh := word_short e1
   rw [uses_t e1] at hp
   have x1 := cnext h1 true
   obtain ⟨_, h2, l2⟩ := next_kt h1 true
   generalize cNext true c1 = d at x1 h2 l2 hp hsh
   have ct := ctoken t d
   have hkt := tok_kt h2
   have htx := tokX_text h2
   have x2 := cnext h2 (labelT (cTok d))
   obtain ⟨_, h3, l3⟩ := next_kt h2 (labelT (cTok d))
   rw [← hkt] at x2 h3 l3 hp htx
   generalize cNext (labelT (kt (tokX t d))) d = d2 at x2 h3 l3 hp
   generalize tokX t d = x at ct x2 h3 l3 hp htx
   have q3 := cskip h3 [⟨#[59]⟩] (by decide) (by decide)
   obtain ⟨h4, l4⟩ := skipX_sit [⟨#[59]⟩] _ h3
   generalize skipX [⟨#[59]⟩] d2 = d3 at q3 h4 l4 hp
   simp only [go_sem, hA, k1]
   refine goCall 400 x1 rfl (by simp only [go_sem]) (by simp only [go_sem, hA]) ?_
   simp only [go_sem, hA]
   refine goCall 400 ct rfl (by simp only [go_sem]) (by simp only [go_sem, hA]) ?_
   by_cases y1 : x.kind = 1
   ·have d1 : decide (x.kind = 1) = true := decide_eq_true y1
    have el : labelT (kt x) = labelL x.text := by unfold labelT kt; simp only [d1, Bool.true_or, Bool.true_and]
    rw [el] at x2
    simp only [go_sem, hA, mixed, d1, undef]
    refine goCallD 400 (rLabel_c ⟨x.text.toArray⟩) rfl (by simp only [go_sem]) (by simp only [go_sem, hA]) ?_
    simp only [go_sem, hA]
    refine goCallD 400 x2 rfl (by simp only [go_sem]) (by simp only [go_sem, hA]) ?_
    simp only [go_sem, hA]
    refine goCallD 400 q3 rfl (by simp only [go_sem, encS, List.map_cons, List.map_nil]) (by simp only [go_sem, hA]) ?_
    simp only [go_sem, hA]
    exact ⟨by show chk _ _ _ = true; kernel_rfl, ⟨encS_length us, encS_fit [⟨x.text.toArray⟩], encS_row us, by rw [encS_length]; omega⟩, d3.1.length, by omega, k, us ++ [⟨x.text.toArray⟩], d3, rfl, by omega, by rw [List.length_append, List.length_singleton]; omega, by rw [hp, htx, List.append_assoc]; rfl, h4, by unfold saSt srG; rw [← encS_append, List.length_append]; rfl⟩
   have d1 : decide (x.kind = 1) = false := decide_eq_false y1
   by_cases y2 : x.kind = 2
   ·have d2' : decide (x.kind = 2) = true := decide_eq_true y2
    have el : labelT (kt x) = labelL x.text := by unfold labelT kt; simp only [d2', Bool.or_true, Bool.true_and]
    rw [el] at x2
    simp only [go_sem, hA, mixed, d1, d2']
    refine goCallD 400 (rLabel_c ⟨x.text.toArray⟩) rfl (by simp only [go_sem]) (by simp only [go_sem, hA]) ?_
    simp only [go_sem, hA]
    refine goCallD 400 x2 rfl (by simp only [go_sem]) (by simp only [go_sem, hA]) ?_
    simp only [go_sem, hA]
    refine goCallD 400 q3 rfl (by simp only [go_sem, encS, List.map_cons, List.map_nil]) (by simp only [go_sem, hA]) ?_
    simp only [go_sem, hA]
    exact ⟨by show chk _ _ _ = true; kernel_rfl, ⟨encS_length us, encS_fit [⟨x.text.toArray⟩], encS_row us, by rw [encS_length]; omega⟩, d3.1.length, by omega, k, us ++ [⟨x.text.toArray⟩], d3, rfl, by omega, by rw [List.length_append, List.length_singleton]; omega, by rw [hp, htx, List.append_assoc]; rfl, h4, by unfold saSt srG; rw [← encS_append, List.length_append]; rfl⟩
   have d2' : decide (x.kind = 2) = false := decide_eq_false y2
   have el : labelT (kt x) = false := by unfold labelT kt; simp only [d1, d2', Bool.or_false, Bool.false_and]
   rw [el] at x2
   simp only [go_sem, hA, mixed, d1, d2', undef]
   refine goCallD 400 x2 rfl (by simp only [go_sem]) (by simp only [go_sem, hA]) ?_
   simp only [go_sem, hA]
   refine goCallD 400 q3 rfl (by simp only [go_sem, encS, List.map_cons, List.map_nil]) (by simp only [go_sem, hA]) ?_
   simp only [go_sem, hA]
   exact ⟨by show chk _ _ _ = true; kernel_rfl, ⟨encS_length us, encS_fit [⟨x.text.toArray⟩], encS_row us, by rw [encS_length]; omega⟩, d3.1.length, by omega, k, us ++ [⟨x.text.toArray⟩], d3, rfl, by omega, by rw [List.length_append, List.length_singleton]; omega, by rw [hp, htx, List.append_assoc]; rfl, h4, by unfold saSt srG; rw [← encS_append, List.length_append]; rfl⟩
  ·have k1 : decide (cTok c1 = wd wUse) = false := decide_eq_false e1
   rw [uses_f e1, List.append_nil] at hp
   cases hp
   simp only [go_sem, k1]
 rintro σ rfl
 refine goMid 400 [1, 2, 3, 4, 5, 7] [0, 1, 3, 1001] [7000, 98, 99] (fun σ => σ = sbSt t cU US [] []) (by simp only [go_sem, hA]; rfl) ?_
 rintro σ rfl
 refine goMid 400 [1, 2, 3, 4, 5, 7] [0, 1, 3, 1001] [7000, 98, 99] (fun σ => σ = sbSt t cD US (DS.map Prod.fst) (DS.map fun d => plN t d.2)) ?_ ?_
 ·simp only [go_sem]
  refine satC_loop [1, 2, 3, 4, 5, 7] [0, 1, 3, 1001] [7000, 98, 99] (fun n σ => ∃ k ds c1, n = (bif c1.2 then 0 else c1.1.length + 1) ∧ n ≤ k ∧ ds.length + (n - 1) ≤ t.length ∧ (DS, cD) = (ds ++ (cDecls (rE (t.length + 1)) k c1).1, (cDecls (rE (t.length + 1)) k c1).2) ∧ Sit t c1 ∧ σ = sbSt t c1 US (ds.map Prod.fst) (ds.map fun d => plN t d.2)) (bif cU.2 then 0 else cU.1.length + 1) ⟨t.length + 1, [], cU, rfl, by cases cU.2 <;> simp only [cond_true, cond_false] <;> omega, by cases cU.2 <;> simp only [cond_true, cond_false, List.length_nil] <;> omega, by rw [List.nil_append, ← hDe], hU1, by simp only [go_sem]; rfl⟩ ?_
  rintro n σ ⟨k, ds, c1, rfl, hk, hds, hpd, h1, rfl⟩
  have hl1 := h1.le
  refine goC 400 ?_
  simp only [go_sem, hA]
  cases hb : c1.2 with
  | true =>
   rw [decls_f (by rw [hb]; rfl) (fun _ => hb), List.append_nil] at hpd
   cases hpd
   simp only [go_sem, hA, undef]
  | false =>
   rw [hb, cond_false] at hk hds
   cases he : c1.1.isEmpty with
   | true =>
    have hz : c1.1.length = 0 := by rw [List.isEmpty_iff.1 he]; rfl
    have d1 : decide (((t.length - c1.1.length : Nat) : Int) < (t.length : Int)) = false := decide_eq_false (by omega)
    rw [decls_f (by rw [he, Bool.or_true]) (by omega), List.append_nil] at hpd
    cases hpd
    simp only [go_sem, hA, hb, encTs_length, d1]
   | false =>
    have hz : 0 < c1.1.length := by
     cases hc : c1.1 with
     | nil => rw [hc] at he; cases he
     | cons y r => simp
    have d1 : decide (((t.length - c1.1.length : Nat) : Int) < (t.length : Int)) = true := decide_eq_true (by omega)
    obtain ⟨k, rfl⟩ : ∃ k', k = k' + 1 := ⟨k - 1, by omega⟩
    rw [decls_t (by rw [hb, he]; rfl)] at hpd
    obtain ⟨cd, h2, l2⟩ := cdecl hp c1 h1 (by omega)
    have hlt := hDl c1 h1 hb
    generalize cDecl (rE (t.length + 1)) c1 = R at cd h2 l2 hlt hpd
    obtain ⟨⟨d, m⟩, c2⟩ := R
    simp only at cd h2 l2 hlt hpd
    simp only [go_sem, hA, hb, encTs_length, d1]
    unfold avX at cd
    rw [hb] at cd
    refine goCall 67 cd rfl (by simp only [go_sem]) (by simp only [go_sem, hA]) ?_
    have hDn : (encDs (ds.map Prod.fst)).length = ds.length := by rw [encDs_length, List.length_map]
    have hIl : (encIs (ds.map fun d => plN t d.2)).length = ds.length := by rw [encIs_length, List.length_map]
    simp only [go_sem, hA, avD]
    refine goStep 300 (by simp only [go_sem]) (opOk_appendW (rows2 := encDs [d]) (k := ⟨11, 57, (ds.map Prod.fst).length, none⟩) rfl rfl rfl rfl rfl (by kernel_rfl) zero_57 (by kernel_rfl) (by rw [show Tryz.prog.cellsOf 57 = 11 by kernel_rfl]; decide) (by kernel_rfl) (by rw [show Tryz.prog.bytesOf 57 = 136 by kernel_rfl]; decide) (encDs_length _) (encDs_fit _) (fun r hr => (encDs_fit _ r hr).1) (by rw [hDn, encDs_length, List.length_singleton]; omega)) (by simp only [go_sem, hA]) ?_
    simp only [go_sem, hA]
    have hn : (bif c2.2 then 0 else c2.1.length + 1) < c1.1.length + 1 := by
     rcases hlt with e | e
     ·rw [e, cond_true]; omega
     ·cases c2.2 <;> simp only [cond_true, cond_false] <;> omega
    exact ⟨⟨by rw [encIs_length], encIs_fit [plN t m], fun r hr => (encIs_fit _ r hr).1, by rw [hIl]; omega⟩, (bif c2.2 then 0 else c2.1.length + 1), hn, k, ds ++ [(d, m)], c2, rfl, by omega, by rw [List.length_append, List.length_singleton]; omega, by rw [hpd, List.append_assoc]; rfl, h2, by
     unfold sbSt srG
     simp only [List.map_append, List.map_cons, List.map_nil, encDs, encIs, List.length_append, List.length_map, List.length_cons, List.length_nil]
     rfl⟩
 rintro σ rfl
 refine goC 400 ?_
 simp only [go_sem, hA, mixed, avS, Tryz.results32]
 refine ⟨by show chk _ _ _ = true; kernel_rfl, ?_⟩
 rfl
end
section
open Go Go.RowKit
def usesX (l : List ByteArray) : Int := if 20 < l.length then 4 else firstN (useE l) l.length
abbrev ruSt (l : List ByteArray) (q : Nat) : St := ⟨[(0, .d (.sl (encS l))), (3, .d (.raw (.int .i64 q)))], [], []⟩
set_option maxRecDepth 100000 in
set_option maxHeartbeats 8000000 in
theorem rUses_c (l : List ByteArray) : Con Tryz.prog 34 [.d (.sl (encS l))] (.d (.raw (.int .i64 (usesX l)))) := by
 refine con_of Tryz.func34 rfl (by decide +kernel) rfl rfl (by simp [Tryz.ntmps34]) fun A hA => ?_
 rw [Tryz.ntmps34] at hA
 refine goC 400 ?_
 by_cases h1 : 20 < l.length
 ·have g1 : decide ((20 : Int) < (l.length : Int)) = true := decide_eq_true (by omega)
  have he : usesX l = 4 := if_pos h1
  simp only [go_sem, hA, encS_length, g1, he, Tryz.results34]
 have g1 : decide ((20 : Int) < (l.length : Int)) = false := decide_eq_false (by omega)
 have hs0 : usesX l = firstN (useE l) l.length := if_neg h1
 simp only [go_sem, hA, encS_length, g1]
 refine satC_loop [0, 3] [] [] (fun y σ => ∃ q : Nat, q ≤ l.length ∧ y = l.length - q ∧ firstN (useE l) q = 0 ∧ σ = ruSt l q) l.length ⟨0, by omega, by omega, rfl, by simp only [go_sem, ruSt]⟩ ?_
 rintro y σ ⟨q, hq, rfl, hf, rfl⟩
 refine goC 400 ?_
 by_cases hlt : q < l.length
 ·have k1 : decide ((q : Int) < (l.length : Int)) = true := decide_eq_true (by omega)
  have hc := rLabel_c l[q]
  have hat := atB_get l q hlt
  have hhit : ∀ e : Int, ¬ e = 0 → useE l q = e → usesX l = e := fun e h0 h => by
   have h2 := firstN_hit (n := l.length) hf hlt (by rw [h]; exact h0)
   rw [hs0, h2, h]
  simp only [go_sem, hA, ruSt, encS_length, k1, Int.toNat_natCast, encS_at l q hlt]
  refine ⟨⟨by omega, by omega⟩, ?_⟩
  refine goCall 300 hc rfl (by simp only [go_sem]) (by simp only [go_sem, hA]) ?_
  cases hl : labelL l[q].data.toList with
  | false =>
   have hr := hhit 6 (by decide) (by unfold useE; rw [hat, hl]; rfl)
   simp only [go_sem, hA, hr, Tryz.results34]
  | true =>
   have hu : useE l q = if 0 < q ∧ ltS (atB l (q - 1)) (atB l q) = false then 10 else 0 := by unfold useE; rw [hat, hl]; rfl
   by_cases hq0 : 0 < q
   ·have k2 : decide ((0 : Int) < (q : Int)) = true := decide_eq_true (by omega)
    have hq1 : ((q : Int) - 1).toNat = q - 1 := by omega
    have hat1 := atB_get l (q - 1) (by omega)
    have hin : inI64 ((q : Int) - 1) := by unfold inI64; omega
    have hw : IntKind.i64.wrap ((q : Int) - 1) = (q : Int) - 1 := wrapI64 hin
    cases hls : ltS l[q - 1] l[q] with
    | false =>
     have hls' : Op.bytesLess l[q - 1].data.toList l[q].data.toList = false := hls
     have hr := hhit 10 (by decide) (by rw [hu, hat, hat1, if_pos ⟨hq0, hls⟩])
     simp only [go_sem, hA, k2, encS_length, hq1, Int.toNat_natCast, encS_at l q hlt, encS_at l (q - 1) (by omega), hls', hr, mixed, Tryz.results34]
     exact ⟨hin, ⟨by omega, by omega⟩, ⟨by omega, by omega⟩, by show chk _ _ _ = true; kernel_rfl⟩
    | true =>
     have hls' : Op.bytesLess l[q - 1].data.toList l[q].data.toList = true := hls
     have hz := firstN_step hf (by rw [hu, hat, hat1, hls, if_neg (by simp)])
     simp only [go_sem, hA, k2, encS_length, hq1, Int.toNat_natCast, encS_at l q hlt, encS_at l (q - 1) (by omega), hls', mixed]
     exact ⟨hin, ⟨by omega, by omega⟩, ⟨by omega, by omega⟩, ⟨by show chk _ _ _ = true; kernel_rfl, by unfold inI64; omega, l.length - (q + 1), by omega, q + 1, by omega, rfl, hz, rfl⟩⟩
   ·have k2 : decide ((0 : Int) < (q : Int)) = false := decide_eq_false (by omega)
    have hz := firstN_step hf (by rw [hu, if_neg (fun h => hq0 h.1)])
    simp only [go_sem, hA, k2, undef, mixed]
    exact ⟨by show chk _ _ _ = true; kernel_rfl, by unfold inI64; omega, l.length - (q + 1), by omega, q + 1, by omega, rfl, hz, rfl⟩
 have k1 : decide ((q : Int) < (l.length : Int)) = false := decide_eq_false (by omega)
 obtain rfl : q = l.length := by omega
 rw [hf] at hs0
 simp only [go_sem, hA, ruSt, encS_length, k1, hs0, Tryz.results34]
theorem srcX_uses (e : Dc → Int) (x : Sr) : srcX e x = if ¬ usesX x.uses = 0 then usesX x.uses else if 100 < x.decls.length then 4 else firstN (declE e x.decls) x.decls.length := by
 unfold srcX usesX
 by_cases h : 20 < x.uses.length
 ·rw [if_pos h, if_pos h, if_pos (by decide)]
 ·rw [if_neg h, if_neg h]
def rdX (x : Dc) : Int := if ¬ checkDX x = 0 then checkDX x else if kindsE 5 x.body then 9 else 0
theorem rdX_eq (x : Dc) : rdX x = sdeclX x := by
 have n1 : ¬ (1 : Int) = 0 := by decide
 have n2 : ¬ (2 : Int) = 0 := by decide
 have n6 : ¬ (6 : Int) = 0 := by decide
 have n9 : ¬ (9 : Int) = 0 := by decide
 have n0 : ¬ ¬ (0 : Int) = 0 := by decide
 unfold rdX sdeclX checkDX namesX
 by_cases h1 : x.id < 0 ∨ 999999 < x.id
 ·rw [if_pos h1, if_pos h1, if_pos n2]
 rw [if_neg h1, if_neg h1]
 by_cases h2 : x.kind < 1 ∨ 3 < x.kind
 ·rw [if_pos h2, if_pos h2, if_pos n9]
 rw [if_neg h2, if_neg h2]
 by_cases h3 : ¬ x.names.length = 1 ∧ ¬ x.names.length = 3
 ·rw [if_pos h3, if_pos h3, if_pos n1, if_pos n1]
 rw [if_neg h3, if_neg h3]
 by_cases h4 : x.names.any (badName x.names) = true
 ·rw [if_pos h4, if_pos h4, if_pos n6, if_pos n6]
 rw [if_neg h4, if_neg h4, if_neg n0]
theorem declE_congr {e f : Dc → Int} (h : ∀ d, e d = f d) (l : List Dc) (q : Nat) : declE e l q = declE f l q := by unfold declE; rw [h]
theorem srcX_eq (x : Sr) : srcX rdX x = srcX sdeclX x := by
 unfold srcX
 rw [firstN_congr _ fun i _ => declE_congr rdX_eq x.decls i]
theorem ones_has {l : List Dc} {k q : Nat} (hk : k < q) (hl : k < l.length) (h1 : (atD l k).names.length = 1) : hasS (ones (l.take q)) (atB (atD l k).names 0) = true := by
 have hm : atD l k ∈ l.take q := by
  rw [atD_get l k hl]
  have : (l.take q)[k]'(by rw [List.length_take]; omega) = l[k] := by simp
  rw [← this]
  exact List.getElem_mem _
 unfold hasS ones
 rw [List.any_eq_true]
 refine ⟨atB (atD l k).names 0, List.mem_filterMap.2 ⟨_, hm, by unfold oneOf; rw [if_pos h1]⟩, by simp⟩
theorem hasS_snoc (l : List ByteArray) (s t : ByteArray) : hasS (l ++ [s]) t = (hasS l t || decide (s = t)) := by simp [hasS]
abbrev rs1St (x : Sr) (q : Nat) : St := ⟨[(1, .box 0 0), (4, .d (.raw (.int .i64 q)))], [(0, some (.cell 26 [.d (.sl (encS x.uses)), .d (.sl (encDs x.decls))]))], []⟩
abbrev rs2St (x : Sr) (d : Dc) (q k : Nat) : St := ⟨[(1, .box 0 0), (4, .d (.raw (.int .i64 q))), (5, .box 9005 0), (6, .d (.raw (.int .i64 k)))], [(0, some (.cell 26 [.d (.sl (encS x.uses)), .d (.sl (encDs x.decls))])),
 (9005, some (.cell 57 [.d (.raw (.int .i64 d.id)), .d (.raw (.int .i64 d.kind)), .d (.raw (.bool d.pub)), .d (.sl (encS d.names)), .d (.raw (.bool d.doubt)), .d (.raw (.int .i64 d.body.kind)), .d (.raw (.string d.body.name)), .d (.raw (.string d.body.more)), .d (.raw (.int .i64 d.body.int)), .d (.raw (.int .i64 d.body.den)), .d (.sl (encL d.body.sub))]))], []⟩
set_option maxRecDepth 100000 in
set_option maxHeartbeats 16000000 in
theorem rsource_c (x : Sr) (hb : ∀ d ∈ x.decls, nodesE d.body ≤ 524288) : Con Tryz.prog 33 [avS x] (.d (.raw (.int .i64 (srcX rdX x)))) := by
 have cu := rUses_c x.uses
 have hs0 := srcX_uses rdX x
 refine con_of Tryz.func33 rfl (by decide +kernel) rfl rfl (by simp [Tryz.ntmps33]) fun A hA => ?_
 rw [Tryz.ntmps33] at hA
 refine goC 400 ?_
 simp only [go_sem, hA, avS]
 refine goCall 300 cu rfl (by simp only [go_sem]) (by simp only [go_sem, hA]) ?_
 by_cases h1 : usesX x.uses = 0
 case neg =>
  have g1 : (decide ¬ usesX x.uses = 0) = true := decide_eq_true h1
  rw [if_pos h1] at hs0
  simp only [go_sem, hA, g1, hs0, Tryz.results33]
 have g1 : (decide ¬ usesX x.uses = 0) = false := decide_eq_false (fun h => h h1)
 rw [if_neg (fun h => h h1)] at hs0
 by_cases h2 : 100 < x.decls.length
 ·have g2 : decide ((100 : Int) < (x.decls.length : Int)) = true := decide_eq_true (by omega)
  rw [if_pos h2] at hs0
  simp only [go_sem, hA, encDs_length, g1, g2, hs0, Tryz.results33]
 have g2 : decide ((100 : Int) < (x.decls.length : Int)) = false := decide_eq_false (by omega)
 rw [if_neg h2] at hs0
 simp only [go_sem, hA, encDs_length, g1, g2]
 refine satC_loop [1, 4] [0] [] (fun y σ => ∃ q : Nat, q ≤ x.decls.length ∧ y = x.decls.length - q ∧ firstN (declE rdX x.decls) q = 0 ∧ σ = rs1St x q) x.decls.length ⟨0, by omega, by omega, rfl, by simp only [go_sem, rs1St]⟩ ?_
 rintro y σ ⟨q, hq, rfl, hf2, rfl⟩
 refine goC 400 ?_
 by_cases hlt : q < x.decls.length
 case neg =>
  have k1 : decide ((q : Int) < (x.decls.length : Int)) = false := decide_eq_false (by omega)
  obtain rfl : q = x.decls.length := by omega
  rw [hf2] at hs0
  simp only [go_sem, hA, rs1St, encDs_length, k1, hs0, Tryz.results33]
 have k1 : decide ((q : Int) < (x.decls.length : Int)) = true := decide_eq_true (by omega)
 have hat := atD_get x.decls q hlt
 have hlen : x.decls.length ≤ 100 := by omega
 obtain ⟨d, hd⟩ : ∃ d, x.decls[q] = d := ⟨_, rfl⟩
 rw [hd] at hat
 have hbd := hb d (by rw [← hd]; exact List.getElem_mem hlt)
 have hc := rCheckDecl_c d hbd
 have ck := rKinds_c 5 (nodesE d.body + 1) d.body (by omega) (by omega)
 have hhit : ∀ e : Int, ¬ e = 0 → declE rdX x.decls q = e → srcX rdX x = e := fun e h0 h => by
  have h2 := firstN_hit (n := x.decls.length) hf2 hlt (by rw [h]; exact h0)
  rw [hs0, h2, h]
 simp only [go_sem, hA, rs1St, encDs_length, k1, Int.toNat_natCast, encDs_at x.decls q hlt, hd, encD]
 refine ⟨⟨by omega, by omega⟩, ?_⟩
 refine goCall 300 hc rfl (by simp only [go_sem, avD]) (by simp only [go_sem, hA]) ?_
 by_cases he : checkDX d = 0
 case neg =>
  have k2 : (decide ¬ checkDX d = 0) = true := decide_eq_true he
  have hrd : rdX d = checkDX d := if_pos he
  have hr := hhit (checkDX d) he (by unfold declE; rw [hat, hrd, if_pos he])
  simp only [go_sem, hA, k2, hr, Tryz.results33]
 have k2 : (decide ¬ checkDX d = 0) = false := decide_eq_false (fun h => h he)
 simp only [go_sem, hA, k2]
 refine goCall 300 ck rfl (by simp only [go_sem, avE_eq]) (by simp only [go_sem, hA]) ?_
 cases h5 : kindsE 5 d.body with
 | true =>
  have hrd : rdX d = 9 := by unfold rdX; rw [if_neg (fun h => h he), h5]; rfl
  have hr := hhit 9 (by decide) (by unfold declE; rw [hat, hrd, if_pos (by decide)])
  simp only [go_sem, hA, hr, Tryz.results33]
 | false =>
  have hrd : rdX d = 0 := by unfold rdX; rw [if_neg (fun h => h he), h5]; rfl
  have hde : declE rdX x.decls q = if misplaced x.decls q then 10 else if d.names.length = 1 ∧ hasS (ones (x.decls.take q)) (atB d.names 0) then 7 else 0 := by unfold declE; rw [hat, hrd, if_neg (by decide)]
  have hq1 : ((q : Int) - 1).toNat = q - 1 := by omega
  have hin : inI64 ((q : Int) - 1) := by unfold inI64; omega
  have hw : IntKind.i64.wrap ((q : Int) - 1) = (q : Int) - 1 := wrapI64 hin
  cases hm : misplaced x.decls q with
  | true =>
   have hm' := hm
   simp only [misplaced, hat, Bool.and_eq_true, Bool.or_eq_true, decide_eq_true_eq] at hm'
   obtain ⟨⟨hq0, hid⟩, hor⟩ := hm'
   have hr := hhit 10 (by decide) (by rw [hde, hm, if_pos rfl])
   have k3 : (decide ¬ d.id = 0) = true := decide_eq_true hid
   have k4 : decide ((0 : Int) < (q : Int)) = true := decide_eq_true (by omega)
   have hat1 := atD_get x.decls (q - 1) (by omega)
   rw [hat1] at hor
   by_cases hp : d.id ≤ x.decls[q - 1].id
   ·have k5 : decide (d.id ≤ x.decls[q - 1].id) = true := decide_eq_true hp
    simp only [go_sem, hA, k3, k4, encDs_length, hq1, encDs_at x.decls (q - 1) (by omega), encD, k5, undef, mixed, hr, Tryz.results33]
    exact ⟨hin, ⟨by omega, by omega⟩, by show chk _ _ _ = true; kernel_rfl⟩
   ·have k5 : decide (d.id ≤ x.decls[q - 1].id) = false := decide_eq_false hp
    have k6 : decide (x.decls[q - 1].id = 0) = true := decide_eq_true (by rcases hor with h | h; exact h; exact absurd h hp)
    simp only [go_sem, hA, k3, k4, encDs_length, hq1, encDs_at x.decls (q - 1) (by omega), encD, k5, k6, mixed, hr, Tryz.results33]
    exact ⟨hin, ⟨by omega, by omega⟩, hin, ⟨by omega, by omega⟩, by show chk _ _ _ = true; kernel_rfl⟩
  | false =>
   rw [hm, if_neg (by decide)] at hde
   have hm' : d.id = 0 ∨ (¬ d.id = 0 ∧ ¬ 0 < q) ∨ (¬ d.id = 0 ∧ 0 < q ∧ ¬ (atD x.decls (q - 1)).id = 0 ∧ ¬ d.id ≤ (atD x.decls (q - 1)).id) := by
    by_cases e1 : d.id = 0
    ·exact .inl e1
    by_cases e2 : 0 < q
    ·refine .inr (.inr ⟨e1, e2, ?_⟩)
     simp only [misplaced, hat, decide_eq_true e2, decide_eq_true e1, Bool.true_and, Bool.or_eq_false_iff, decide_eq_false_iff_not] at hm
     exact hm
    ·exact .inr (.inl ⟨e1, e2⟩)
   rcases hm' with e1 | ⟨e1, e2⟩ | ⟨e1, e2, e3, e4⟩
   case' inl =>
    have k3 : (decide ¬ d.id = 0) = false := decide_eq_false (fun h => h e1)
    by_cases e2 : 0 < q
    case' pos =>
     have k4 : decide ((0 : Int) < (q : Int)) = true := decide_eq_true (by omega)
     simp only [go_sem, hA, k3, k4, undef, mixed]
    case' neg =>
     have k4 : decide ((0 : Int) < (q : Int)) = false := decide_eq_false (by omega)
     simp only [go_sem, hA, k4, undef, mixed]
   case' inr.inl =>
    have k4 : decide ((0 : Int) < (q : Int)) = false := decide_eq_false (by omega)
    simp only [go_sem, hA, k4, undef, mixed]
   case' inr.inr =>
    have k3 : (decide ¬ d.id = 0) = true := decide_eq_true e1
    have k4 : decide ((0 : Int) < (q : Int)) = true := decide_eq_true (by omega)
    have hat1 := atD_get x.decls (q - 1) (by omega)
    rw [hat1] at e3 e4
    have k5 : decide (x.decls[q - 1].id = 0) = false := decide_eq_false e3
    have k6 : decide (d.id ≤ x.decls[q - 1].id) = false := decide_eq_false e4
    simp only [go_sem, hA, k3, k4, encDs_length, hq1, encDs_at x.decls (q - 1) (by omega), encD, k5, k6, mixed]
    refine ⟨hin, ⟨by omega, by omega⟩, hin, ⟨by omega, by omega⟩, ?_⟩
   all_goals
    refine ⟨by show chk _ _ _ = true; kernel_rfl, ?_⟩
    refine satC_loop [1, 4, 5, 6] [0, 9005] [] (fun y σ => ∃ k : Nat, k ≤ q ∧ y = q - k ∧ (d.names.length = 1 → hasS (ones (x.decls.take k)) (atB d.names 0) = false) ∧ σ = rs2St x d q k) q ⟨0, by omega, by omega, fun _ => rfl, by simp only [go_sem, rs2St]⟩ ?_
    rintro y σ ⟨k, hk, rfl, hnone, rfl⟩
    refine goC 400 ?_
    have fin : (d.names.length = 1 → hasS (ones (x.decls.take q)) (atB d.names 0) = false) → firstN (declE rdX x.decls) (q + 1) = 0 := fun h => firstN_step hf2 (by
     rw [hde, if_neg]
     rintro ⟨h6, h7⟩
     rw [h h6] at h7; cases h7)
    by_cases hkq : k < q
    case neg =>
     obtain rfl : k = q := by omega
     have k7 : decide ((k : Int) < (k : Int)) = false := decide_eq_false (by omega)
     simp only [go_sem, hA, rs2St, k7, undef]
     exact ⟨by unfold inI64; omega, x.decls.length - (k + 1), by omega, k + 1, by omega, rfl, fin hnone, rfl⟩
    have k7 : decide ((k : Int) < (q : Int)) = true := decide_eq_true (by omega)
    by_cases hl : d.names.length = 1
    case neg =>
     have k8 : decide ((d.names.length : Int) = 1) = false := decide_eq_false (by omega)
     simp only [go_sem, hA, rs2St, k7, k8, encS_length]
     exact ⟨by unfold inI64; omega, x.decls.length - (q + 1), by omega, q + 1, by omega, rfl, fin (fun h => absurd h hl), rfl⟩
    have k8 : decide ((d.names.length : Int) = 1) = true := decide_eq_true (by omega)
    have hkl : k < x.decls.length := by omega
    have hone := ones_succ x.decls k hkl
    have hatk := atD_get x.decls k hkl
    obtain ⟨e, hek⟩ : ∃ e, x.decls[k] = e := ⟨_, rfl⟩
    rw [hek] at hatk
    rw [hatk] at hone
    by_cases hle : e.names.length = 1
    ·have k9 : decide ((e.names.length : Int) = 1) = true := decide_eq_true (by omega)
     rw [if_pos hle] at hone
     by_cases heq : atB e.names 0 = atB d.names 0
     ·have k10 : decide (atB e.names 0 = atB d.names 0) = true := decide_eq_true heq
      have hh := ones_has (l := x.decls) hkq hkl (by rw [hatk]; exact hle)
      rw [hatk, heq] at hh
      have hr := hhit 7 (by decide) (by rw [hde, if_pos ⟨hl, hh⟩])
      simp only [go_sem, hA, rs2St, k7, k8, k9, k10, encS_length, encDs_length, Int.toNat_natCast, encDs_at x.decls k hkl, hek, encD, encS_atB e.names 0 (by omega), encS_atB d.names 0 (by omega), mixed, hr, Tryz.results33]
      exact ⟨⟨by omega, by omega⟩, ⟨by omega, by omega⟩, by omega, by omega, by show chk _ _ _ = true; kernel_rfl⟩
     ·have k10 : decide (atB e.names 0 = atB d.names 0) = false := decide_eq_false heq
      simp only [go_sem, hA, rs2St, k7, k8, k9, k10, encS_length, encDs_length, Int.toNat_natCast, encDs_at x.decls k hkl, hek, encD, encS_atB e.names 0 (by omega), encS_atB d.names 0 (by omega), mixed]
      exact ⟨⟨by omega, by omega⟩, ⟨by omega, by omega⟩, by omega, by omega, by show chk _ _ _ = true; kernel_rfl, by unfold inI64; omega, q - (k + 1), by omega, k + 1, by omega, rfl, fun _ => by rw [hone, hasS_snoc, hnone hl, decide_eq_false heq]; rfl, rfl⟩
    ·have k9 : decide ((e.names.length : Int) = 1) = false := decide_eq_false (by omega)
     rw [if_neg hle, List.append_nil] at hone
     simp only [go_sem, hA, rs2St, k7, k8, k9, encS_length, encDs_length, Int.toNat_natCast, encDs_at x.decls k hkl, hek, encD, undef, mixed]
     exact ⟨⟨by omega, by omega⟩, by show chk _ _ _ = true; kernel_rfl, by unfold inI64; omega, q - (k + 1), by omega, k + 1, by omega, rfl, fun _ => by rw [hone]; exact hnone hl, rfl⟩
end
section
open Go Go.RowKit
end
section
open Go Go.RowKit
def sameDc (x y : Dc) : Bool := decide (x.id = y.id) && (decide (x.kind = y.kind) && ((x.pub == y.pub) && ((x.doubt == y.doubt) && (sameS x.names y.names && sameE x.body y.body))))
theorem sameDc_iff (x y : Dc) : sameDc x y = true ↔ x = y := by
 obtain ⟨a1, a2, a3, a4, a5, a6⟩ := x
 obtain ⟨b1, b2, b3, b4, b5, b6⟩ := y
 simp only [sameDc, Bool.and_eq_true, decide_eq_true_eq, beq_iff_eq, sameS_iff, sameE_iff, Dc.mk.injEq]
 exact ⟨fun ⟨h1, h2, h3, h4, h5, h6⟩ => ⟨h1, h2, h3, h5, h4, h6⟩, fun ⟨h1, h2, h3, h5, h4, h6⟩ => ⟨h1, h2, h3, h4, h5, h6⟩⟩
def sameDs : List Dc → List Dc → Bool
 | [], [] => true
 | x :: xs, y :: ys => sameDc x y && sameDs xs ys
 | _, _ => false
theorem sameDs_iff : ∀ a b : List Dc, sameDs a b = true ↔ a = b
 | [], [] => by simp [sameDs]
 | x :: xs, y :: ys => by simp only [sameDs, Bool.and_eq_true, sameDc_iff, sameDs_iff xs ys, List.cons.injEq]
 | [], y :: ys => by simp [sameDs]
 | x :: xs, [] => by simp [sameDs]
theorem sameDs_false {a b : List Dc} (h : a ≠ b) : sameDs a b = false := by
 cases hc : sameDs a b
 ·rfl
 ·exact absurd ((sameDs_iff a b).1 hc) h
def sameSr (x y : Sr) : Bool := sameS x.uses y.uses && sameDs x.decls y.decls
theorem sameSr_iff (x y : Sr) : sameSr x y = true ↔ x = y := by
 obtain ⟨a1, a2⟩ := x
 obtain ⟨b1, b2⟩ := y
 simp only [sameSr, Bool.and_eq_true, sameS_iff, sameDs_iff, Sr.mk.injEq]
set_option maxRecDepth 100000 in
set_option maxHeartbeats 8000000 in
theorem rSameDecl_c (x y : Dc) (hb : nodesE x.body ≤ 1048576) (hn : x.names.length ≤ 1048576) : Con Tryz.prog 73 [avD x, avD y] (.d (.raw (.bool (sameDc x y)))) := by
 have cs := rSameStrings_c x.names y.names hn
 have ce := rSame_c x.body y.body (by omega)
 refine con_of Tryz.func73 rfl (by decide +kernel) rfl rfl (by simp [Tryz.ntmps73]) fun A hA => ?_
 rw [Tryz.ntmps73] at hA
 refine goC 400 ?_
 have he : sameDc x y = (decide (x.id = y.id) && (decide (x.kind = y.kind) && ((x.pub == y.pub) && ((x.doubt == y.doubt) && (sameS x.names y.names && sameE x.body y.body))))) := rfl
 cases g1 : decide (x.id = y.id) with
 | false =>
  rw [g1] at he
  simp only [Bool.false_and] at he
  simp only [go_sem, hA, avD, g1, undef, he, Tryz.results73]
 | true =>
 cases g2 : decide (x.kind = y.kind) with
 | false =>
  rw [g1, g2] at he
  simp only [Bool.false_and, Bool.true_and] at he
  simp only [go_sem, hA, avD, g1, g2, undef, he, Tryz.results73]
 | true =>
 cases g3 : (x.pub == y.pub) with
 | false =>
  rw [g1, g2, g3] at he
  simp only [Bool.false_and, Bool.true_and] at he
  simp only [go_sem, hA, avD, g1, g2, g3, undef, he, Tryz.results73]
 | true =>
 cases g4 : (x.doubt == y.doubt) with
 | false =>
  rw [g1, g2, g3, g4] at he
  simp only [Bool.false_and, Bool.true_and] at he
  simp only [go_sem, hA, avD, g1, g2, g3, g4, undef, he, Tryz.results73]
 | true =>
 rw [g1, g2, g3, g4] at he
 simp only [Bool.true_and] at he
 simp only [go_sem, hA, avD, g1, g2, g3, g4]
 refine goCall 300 cs rfl (by simp only [go_sem]) (by simp only [go_sem, hA]) ?_
 cases g5 : sameS x.names y.names with
 | false =>
  rw [g5] at he
  simp only [Bool.false_and] at he
  simp only [go_sem, hA, undef, he, Tryz.results73]
 | true =>
  rw [g5] at he
  simp only [Bool.true_and] at he
  simp only [go_sem, hA]
  refine goCall 300 ce rfl (by simp only [go_sem, avE_eq]) (by simp only [go_sem, hA]) ?_
  cases g6 : sameE x.body y.body <;> rw [g6] at he <;> simp only [go_sem, hA, he, Tryz.results73]
abbrev smdSt (l m : List Dc) (q : Nat) : St := ⟨[(0, .d (.sl (encDs l))), (1, .d (.sl (encDs m))), (5, .d (.raw (.int .i64 q)))], [], []⟩
set_option maxRecDepth 100000 in
set_option maxHeartbeats 8000000 in
theorem rSameDecls_c (l m : List Dc) (hl : l.length ≤ 1048576) (hb : ∀ d ∈ l, nodesE d.body ≤ 1048576 ∧ d.names.length ≤ 1048576) : Con Tryz.prog 37 [.d (.sl (encDs l)), .d (.sl (encDs m))] (.d (.raw (.bool (sameDs l m)))) := by
 refine con_of Tryz.func37 rfl (by decide +kernel) rfl rfl (by simp [Tryz.ntmps37]) fun A hA => ?_
 rw [Tryz.ntmps37] at hA
 refine goC 300 ?_
 by_cases hlm : l.length = m.length
 ·have g0 : (decide ¬ (l.length : Int) = (m.length : Int)) = false := decide_eq_false (by omega)
  simp only [go_sem, hA, encDs_length, g0]
  refine satC_loop [0, 1, 5] [] [] (fun x σ => ∃ q : Nat, q ≤ l.length ∧ x = l.length - q ∧ l.take q = m.take q ∧ σ = smdSt l m q) l.length ⟨0, by omega, by omega, rfl, by simp only [go_sem, smdSt]⟩ ?_
  rintro x σ ⟨q, hq, rfl, hf, rfl⟩
  refine goC 400 ?_
  by_cases hlt : q < l.length
  ·have g1 : decide ((q : Int) < (l.length : Int)) = true := decide_eq_true (by omega)
   have hq2 : q < m.length := by omega
   obtain ⟨hb1, hb2⟩ := hb l[q] (List.getElem_mem hlt)
   have cs := rSameDecl_c l[q] m[q] hb1 hb2
   obtain ⟨d, hd⟩ : ∃ d, l[q] = d := ⟨_, rfl⟩
   obtain ⟨e, he⟩ : ∃ e, m[q] = e := ⟨_, rfl⟩
   rw [hd, he] at cs
   simp only [go_sem, hA, smdSt, encDs_length, g1, Int.toNat_natCast, encDs_at l q hlt, encDs_at m q hq2, hd, he, encD, mixed]
   refine ⟨⟨by omega, by omega⟩, ⟨by omega, by omega⟩, ?_⟩
   refine goCallD 300 cs rfl (by simp only [go_sem, avD]) (by simp only [go_sem, hA]) ?_
   cases hs : sameDc d e with
   | true =>
    have hde := (sameDc_iff d e).1 hs
    simp only [go_sem, hA]
    exact ⟨by show chk _ _ _ = true; kernel_rfl, by unfold inI64; omega, l.length - (q + 1), by omega, q + 1, by omega, rfl, by rw [List.take_succ_eq_append_getElem hlt, List.take_succ_eq_append_getElem hq2, hf, hd, he, hde], rfl⟩
   | false =>
    have hne : sameDs l m = false := sameDs_false fun e' => by
     subst e'
     rw [hd] at he
     rw [(sameDc_iff d e).2 he] at hs
     cases hs
    simp only [go_sem, hA, hne, Tryz.results37]
    exact by show chk _ _ _ = true; kernel_rfl
  ·have g1 : decide ((q : Int) < (l.length : Int)) = false := decide_eq_false (by omega)
   obtain rfl : q = l.length := by omega
   have he : l = m := by rw [List.take_length, List.take_of_length_le (by omega)] at hf; exact hf
   have hs : sameDs l m = true := (sameDs_iff _ _).2 he
   simp only [go_sem, hA, smdSt, encDs_length, g1, Tryz.results37, hs]
 ·have g0 : (decide ¬ (l.length : Int) = (m.length : Int)) = true := decide_eq_true (by omega)
  have hne : sameDs l m = false := sameDs_false fun e => hlm (by rw [e])
  simp only [go_sem, hA, encDs_length, g0, Tryz.results37, hne]
set_option maxRecDepth 100000 in
set_option maxHeartbeats 8000000 in
theorem rSameSource_c (x y : Sr) (hu : x.uses.length ≤ 1048576) (hl : x.decls.length ≤ 1048576) (hb : ∀ d ∈ x.decls, nodesE d.body ≤ 1048576 ∧ d.names.length ≤ 1048576) : Con Tryz.prog 14 [avS x, avS y] (.d (.raw (.bool (sameSr x y)))) := by
 have cu := rSameStrings_c x.uses y.uses hu
 have cd := rSameDecls_c x.decls y.decls hl hb
 refine con_of Tryz.func14 rfl (by decide +kernel) rfl rfl (by simp [Tryz.ntmps14]) fun A hA => ?_
 rw [Tryz.ntmps14] at hA
 refine goC 400 ?_
 simp only [go_sem, hA, avS]
 refine goCall 300 cu rfl (by simp only [go_sem]) (by simp only [go_sem, hA]) ?_
 cases h : sameS x.uses y.uses with
 | false =>
  have hr : sameSr x y = false := by unfold sameSr; rw [h]; rfl
  simp only [go_sem, hA, undef, hr, Tryz.results14]
 | true =>
  have hr : sameSr x y = sameDs x.decls y.decls := by unfold sameSr; rw [h]; rfl
  simp only [go_sem, hA]
  refine goCall 300 cd rfl (by simp only [go_sem]) (by simp only [go_sem, hA]) ?_
  cases h2 : sameDs x.decls y.decls <;> rw [h2] at hr <;> simp only [go_sem, hA, hr, Tryz.results14]
end
end
section
open Go Go.RowKit
end
section
open Go Go.RowKit
end
section
section
open Go Go.RowKit
end
section
open Go Go.RowKit
theorem avX0 (t : List LTok) : avX t (t.map kt, false) = .agg [.d (.sl (encTs t)), .d (.raw (.int .i64 0)), .d (.raw (.bool false))] := by
 show AV.agg [.d (.sl (encTs t)), .d (.raw (.int .i64 ((t.length - (t.map kt).length : Nat) : Int))), .d (.raw (.bool false))] = _
 rw [List.length_map, Nat.sub_self]; rfl
set_option maxRecDepth 100000 in
set_option maxHeartbeats 16000000 in
theorem rsourceP_c (t : List LTok) (ht : t.length ≤ 524288) : Con Tryz.prog 20 [.d (.sl (encTs t))] (.tup [avS (srcP t).1, .d (.raw (.int .i64 (srcP t).2))]) := by
 obtain ⟨cs, _⟩ := csource (sit0 t (by omega))
 have hrl := rl_src (t.length + 1) (t.map kt)
 rw [avX0] at cs
 generalize cSrc (t.length + 1) (t.map kt, false) = y at cs hrl
 obtain ⟨⟨x, ps⟩, d⟩ := y
 refine con_of Tryz.func20 rfl (by decide +kernel) rfl rfl (by simp [Tryz.ntmps20]) fun A hA => ?_
 rw [Tryz.ntmps20] at hA
 refine goC 400 ?_
 simp only [go_sem, hA]
 refine goCall 400 cs rfl (by simp only [go_sem]) (by simp only [go_sem, hA]) ?_
 cases hp : pSrc (t.length + 1) (t.map kt) with
 | mk a r =>
  rw [hp] at hrl
  cases a with
  | none =>
   have hd : d = (r, true) := hrl
   subst hd
   have hx : srcP t = (⟨[], []⟩, 3) := by unfold srcP; rw [hp]
   simp only [go_sem, hA, avS]
   rw [hx]
   simp only [go_sem, Tryz.results20]
   rfl
  | some e2 =>
   have hd : ((x, ps), d) = (e2, (r, false)) := hrl
   injection hd with hd1 hd2
   subst hd1 hd2
   have hfew := src_few hp
   rw [List.length_map] at hfew
   simp only [go_sem, hA, avS]
   refine goCall 400 (rsource_c x (fun d hd => Nat.le_trans (hfew d hd) ht)) rfl (by simp only [go_sem, avS]) (by simp only [go_sem, hA]) ?_
   rw [srcX_eq]
   by_cases h0 : srcX sdeclX x = 0
   ·have hx : srcP t = (x, 0) := by unfold srcP; rw [hp]; exact if_pos h0
    simp only [go_sem, hA, h0, hx, Tryz.results20]
   ·have hx : srcP t = (⟨[], []⟩, srcX sdeclX x) := by unfold srcP; rw [hp]; exact if_neg h0
    have g0 : (decide ¬srcX sdeclX x = 0) = true := decide_eq_true h0
    simp only [go_sem, hA, g0, hx, Tryz.results20]
    rfl
theorem srcP_few (t : List LTok) (ht : t.length ≤ 120) : (srcP t).1.uses.length ≤ 1048576 ∧ (srcP t).1.decls.length ≤ 1048576 ∧ ∀ d ∈ (srcP t).1.decls, nodesE d.body ≤ 1048576 ∧ d.names.length ≤ 1048576 := by
 unfold srcP
 cases hp : pSrc (t.length + 1) (t.map kt) with
 | mk a r =>
  cases a with
  | none => exact ⟨by simp [], by simp [], fun d h => by cases h⟩
  | some e2 =>
   obtain ⟨x, ps⟩ := e2
   simp only
   split
   ·rename_i h0
    have hfew := src_few hp
    have hl := src_lens hp
    have hok := src_ok h0
    rw [List.length_map] at hfew hl
    exact ⟨by simp only; omega, by simp only; omega, fun d hd => ⟨by have := hfew d hd; omega, by have := (hok.dec d hd).len; omega⟩⟩
   ·exact ⟨by simp [], by simp [], fun d h => by cases h⟩
set_option maxRecDepth 100000 in
set_option maxHeartbeats 16000000 in
theorem lawSource_c (t : List LTok) (ht : t.length ≤ 1048576) : Con Tryz.prog 5 [.d (.sl (encTs t))] (.d (.raw (.bool true))) := by
 have cg := greatT_c t ht
 have ca := awake22_c
 refine con_of Tryz.func5 rfl (by decide +kernel) rfl rfl (by simp [Tryz.ntmps5]) fun A hA => ?_
 rw [Tryz.ntmps5] at hA
 refine goC 400 ?_
 simp only [go_sem, hA]
 refine goCall 400 cg rfl (by simp only [go_sem]) (by simp only [go_sem, hA]) ?_
 cases hg : greatT t with
 | true =>
  simp only [go_sem]
  refine goCall 400 ca rfl (by simp only [go_sem]) (by simp only [go_sem, hA]) ?_
  simp only [go_sem, hA, Tryz.results5]
 | false =>
 have hlen : t.length ≤ 120 := by
  unfold greatT at hg
  simp only [Bool.or_eq_false_iff, decide_eq_false_iff_not] at hg
  omega
 have ce := psource_c t (by omega)
 have cr := rsourceP_c t (by omega)
 obtain ⟨f1, f2, f3⟩ := srcP_few t hlen
 generalize srcP t = R at ce cr f1 f2 f3
 obtain ⟨x, c⟩ := R
 have cs := rSameSource_c x x f1 f2 f3
 rw [(sameSr_iff x x).2 rfl] at cs
 have k2 : decide (c = c) = true := decide_eq_true rfl
 simp only [go_sem, hA]
 refine goCall 400 ce rfl (by simp only [go_sem]) (by simp only [go_sem, hA]) ?_
 simp only [go_sem, hA, avS]
 refine goCall 400 cr rfl (by simp only [go_sem]) (by simp only [go_sem, hA]) ?_
 simp only [go_sem, hA, avS]
 refine goCall 400 cs rfl (by simp only [go_sem, avS]) (by simp only [go_sem, hA]) ?_
 simp only [go_sem, hA]
 refine goCall 400 ca rfl rfl (by simp only [go_sem, hA]) ?_
 simp only [go_sem, hA, Tryz.results5]
end
end
end Go.Proofs.YtnnolijagpakiaaGreatDoor
