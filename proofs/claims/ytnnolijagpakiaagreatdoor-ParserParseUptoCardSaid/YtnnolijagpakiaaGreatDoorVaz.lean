/- Texts of this proof, part 26: what the proof uses of them. -/
import Derived.Test.YtnnolijagpakiaaGreatDoorVay
import Derived.Test.YtnnolijagpakiaaGreatDoorVao
import Derived.Test.YtnnolijagpakiaaGreatDoorVax
import Derived.Test.YtnnolijagpakiaaGreatDoorVan
namespace Go.Proofs.YtnnolijagpakiaaGreatDoor
section
open Go Go.RowKit
theorem postPa_cases {t : List LTok} {x : PR (Sr × List Nat)} {o : Out} (h : postTry (postPa t x) o) : (∃ e s', x = (some e, restK s') ∧ o = .ret (.tup [.d (.raw (.int .i64 0)), .d (.raw (.int .i64 0))]) (paL s' (srB e.1) (iB t e.2)) ∧ Rdy s' t) ∨ ∃ r, x = (none, r) ∧ o = .ret (.tup [.d (.raw (.int .i64 (t.length - r.length : Nat))), .d (.raw (.int .i64 3))]) ⟨[], []⟩ := by
 obtain ⟨a, r⟩ := x
 cases a with
 | some e =>
  left
  rcases h with ⟨res, L', h1, s', h2, h3, rfl⟩ | ⟨n, h1, s', h2, _⟩
  ·cases h2
   exact ⟨e, s', rfl, h1, h3⟩
  ·cases h2
 | none =>
  right
  rcases h with ⟨res, L', h1, h2⟩ | ⟨n, h1, h2⟩
  ·cases h2
  ·injection h2 with h2
   injection h2 with _ h2
   injection h2 with h2
   simp only [Array.mk.injEq, List.cons.injEq, Value.int.injEq, true_and, and_true] at h2
   subst h2
   exact ⟨r, rfl, h1⟩
theorem postPa_pan {t : List LTok} {x : PR (Sr × List Nat)} (v : Value) (h : postPa t x (.pan v)) : ∃ n, v = pvF n := by
 obtain ⟨a, r⟩ := x
 cases a with
 | some e =>
  obtain ⟨s', h, _⟩ := h
  cases h
 | none =>
  injection h with h
  exact ⟨_, h⟩
theorem pDecls_le (f : Nat) : ∀ (g : Nat) (l : List KT), (pDecls f g l).2.length ≤ l.length
 | 0, [] => Nat.le_refl _
 | _ + 1, [] => Nat.le_refl _
 | 0, y :: r => Nat.le_refl _
 | g + 1, y :: r => by
  rw [pDecls]
  exact bind_le (pDecl_le f (y :: r)) fun _ q h => bind_le (Nat.le_trans (pDecls_le f g q) h) fun _ _ h => h
theorem pSrc_le (f : Nat) (l : List KT) : (pSrc f l).2.length ≤ l.length := bind_le (pUses_le f l) fun _ q h => bind_le (Nat.le_trans (pDecls_le f f q) h) fun _ _ h => h
theorem uses_len : ∀ (f : Nat) (l r : List KT) (us : List ByteArray), pUses f l = (some us, r) → us.length + r.length ≤ l.length
 | 0, l, r, us, h => by cases h; simp
 | f + 1, l, r, us, h => by
  rw [pUses] at h
  split at h
  ·obtain ⟨a, q, h1, h⟩ := bind_get h
   obtain ⟨u, q2, h2, h⟩ := bind_get h
   obtain ⟨vs, q3, h3, h⟩ := bind_get h
   cases h
   have e1 := pLab_le l.tail
   rw [h1] at e1
   have e2 := eat_few h2
   have e3 := uses_len f _ _ _ h3
   simp only [List.length_tail] at e1
   rw [List.length_cons]
   omega
  ·cases h; simp
theorem decls_len (f : Nat) : ∀ (g : Nat) (l r : List KT) (ds : List (Dc × Nat)), pDecls f g l = (some ds, r) → ds.length + r.length ≤ l.length
 | 0, [], r, ds, h => by cases h; simp
 | _ + 1, [], r, ds, h => by cases h; simp
 | 0, y :: l, r, ds, h => by cases h
 | g + 1, y :: l, r, ds, h => by
  rw [pDecls] at h
  obtain ⟨d, q, h1, h⟩ := bind_get h
  obtain ⟨es, q2, h2, h⟩ := bind_get h
  cases h
  have e1 := pDecl_len h1
  have e2 := decls_len f g _ _ _ h2
  rw [List.length_cons]
  omega
theorem src_lens {f : Nat} {l r : List KT} {x : Sr} {ps : List Nat} (h : pSrc f l = (some (x, ps), r)) : x.uses.length ≤ l.length ∧ x.decls.length ≤ l.length := by
 unfold pSrc at h
 obtain ⟨us, q, h1, h⟩ := bind_get h
 obtain ⟨ds, q2, h2, h⟩ := bind_get h
 cases h
 have e1 := uses_len _ _ _ _ h1
 have e2 := decls_len _ _ _ _ _ h2
 simp only [List.length_map]
 omega
set_option maxRecDepth 100000 in
set_option maxHeartbeats 16000000 in
theorem pparse_c (s : ByteArray) : Con Tryz.prog 12 [.d (.raw (.string s))] (.tup [avS (parseP s).1, .d (.raw (.int .i64 (parseP s).2.1)), .d (.raw (.int .i64 (parseP s).2.2))]) := by
 obtain ⟨b1, b2, b3, b4, b5, b6⟩ := scan_bound s
 have csc := scan_c s
 have hP : parseP s = if ¬ (scanX s).2.2 = 0 then (sr0, (scanX s).2.1, (scanX s).2.2) else
   match pSrc ((scanX s).1.length + 1) ((scanX s).1.map kt) with
   | (none, r) => (sr0, if r.length = 0 then (s.size : Int) else posT (scanX s).1 ((scanX s).1.length - r.length), 3)
   | (some x, _) => if srcX sdeclX x.1 = 0 then (x.1, 0, 0) else if srcX sdeclX x.1 = 10 ∧ 0 ≤ unordX x.1 then (sr0, posT (scanX s).1 ((scanX s).1.length - x.2.getD (unordX x.1).toNat 0), 10) else (sr0, 0, srcX sdeclX x.1) := rfl
 generalize parseP s = R at hP ⊢
 obtain ⟨t, p, c, hx⟩ : ∃ t p c, scanX s = (t, p, c) := ⟨_, _, _, rfl⟩
 rw [hx] at b1 b2 b3 b4 b5 b6 csc hP
 simp only at b1 b2 b3 b4 b5 b6 csc hP
 refine con_ofX Tryz.func12 rfl (by decide +kernel) rfl rfl (by simp [Tryz.ntmps12]) fun A hA hX => ?_
 rw [Tryz.ntmps12] at hA
 refine goMid 300 [0, 2, 3, 4] [0] [] (fun σ => σ = (⟨[(0, .d (.raw (.string s))), (2, .box 0 0), (3, .d (.raw (.int .i64 0))), (4, .d (.raw (.int .i64 0)))], [(0, some srZ)], []⟩ : St)) (by simp only [go_sem, hA]) ?_
 rintro σ rfl
 refine goMid 300 [0, 2, 3, 4, 5, 6, 7] [0] [] (fun σ => σ = (⟨[(0, .d (.raw (.string s))), (2, .box 0 0), (3, .d (.raw (.int .i64 0))), (4, .d (.raw (.int .i64 0))), (5, .d (.sl (encTs t))), (6, .d (.raw (.int .i64 p))), (7, .d (.raw (.int .i64 c)))], [(0, some srZ)], []⟩ : St)) ?_ ?_
 ·simp only [go_sem, hA]
  refine goCall 300 csc rfl (by simp only [go_sem]) (by simp only [go_sem, hA]) ?_
  simp only [go_sem, hA]
 rintro σ rfl
 refine goMid 300 [0, 2, 3, 4, 5] [0] [] (fun σ => c = 0 ∧ σ = (⟨[(0, .d (.raw (.string s))), (2, .box 0 0), (3, .d (.raw (.int .i64 0))), (4, .d (.raw (.int .i64 0))), (5, .d (.sl (encTs t)))], [(0, some srZ)], []⟩ : St)) ?_ ?_
 ·by_cases hc : c = 0
  ·have g0 : (decide ¬c = 0) = false := decide_eq_false (by simpa using hc)
   simp only [go_sem, hA, g0]
   exact hc
  ·have g0 : (decide ¬c = 0) = true := decide_eq_true hc
   rw [if_pos hc] at hP
   simp only [go_sem, hA, g0, hP, avS0, Tryz.results12]
 rintro σ ⟨rfl, rfl⟩
 rw [if_neg (by simp)] at hP
 refine goC 10 ?_
 simp only [go_sem, hA]
 refine goAs 901 0 (by simp only [go_sem]) (by simp only [go_sem]; rfl) trivial (hX 901) rfl (by simp only [go_sem, hA]) ?_
 simp only [go_sem]
 refine goAs 902 8 (by simp only [go_sem]) (by simp only [go_sem]; rfl) trivial (hX 902) rfl (by simp only [go_sem, hA]) ?_
 simp only [go_sem]
 refine goAs 904 4 (by simp only [go_sem]) (by simp only [go_sem]; rfl) trivial (hX 904) rfl (by simp only [go_sem, hA]) ?_
 simp only [go_sem]
 refine goAs 905 2 (by simp only [go_sem]) (by simp only [go_sem]; rfl) trivial (hX 905) rfl (by simp only [go_sem, hA]) ?_
 simp only [go_sem]
 refine satC_stkCell 910 901 2 11 0 120 (hX 910) rfl rfl rfl ?_
 refine satC_stkCell 911 901 3 1 0 9 (hX 911) rfl rfl rfl ?_
 refine satC_stkCell 912 901 4 1 0 3 (hX 912) rfl rfl rfl ?_
 refine satC_stkCell 913 901 5 6 0 36 (hX 913) rfl rfl rfl ?_
 refine goMid 100600 [0, 2, 3, 4, 5, 9, 10, 11, 12] [0, 901, 902, 904, 905] [910, 911, 912, 913] (fun σ => ∃ e s', pSrc (t.length + 1) (t.map kt) = (some e, restK s') ∧ Rdy s' t ∧ σ = (⟨[(0, .d (.raw (.string s))), (2, .box 0 0), (3, .d (.raw (.int .i64 0))), (4, .d (.raw (.int .i64 0))), (5, .d (.sl (encTs t))), (9, .box 904 0), (10, .box 905 0), (11, .d (.raw (.int .i64 0))), (12, .d (.raw (.int .i64 0)))], [(0, some srZ), (901, some (rdBlk s')), (902, some rBox), (904, some (srB e.1)), (905, some (iB t e.2))], (rdL s').toks⟩ : St)) ?_ ?_
 ·simp only [go_sem, hA]
  refine goCallL [901, 902, 904, 905] [910, 911, 912, 913] 300 (try_con (parse1_c hN hM hI (rs0 t) t (rdy0 t (by omega))) postPa_pan) rfl rfl rfl rfl rfl (by simp only [go_sem, hA]) (fun res L' h => ?_) (fun pv h => ?_)
  rotate_left
  ·rcases h with ⟨_, _, h, _⟩ | ⟨_, h, _⟩ <;> cases h
  rcases postPa_cases h with ⟨e, s', e1, h, hS⟩ | ⟨r, e1, h⟩
  ·cases h
   simp only [go_sem, hA]
   exact ⟨e, s', e1, hS, rfl⟩
  ·cases h
   rw [show pSrc (t.length + 1) (t.map kt) = (none, r) from e1] at hP
   simp only at hP
   have hr : r.length ≤ t.length := by
    have h1 := pSrc_le (t.length + 1) (t.map kt)
    rw [show pSrc (t.length + 1) (t.map kt) = (none, r) from e1, List.length_map] at h1
    exact h1
   by_cases h0 : r.length = 0
   ·have g1 : decide (((t.length - r.length : Nat) : Int) = (t.length : Int)) = true := decide_eq_true (by omega)
    rw [if_pos h0] at hP
    simp only [go_sem, hA, ne30, encTs_length, g1, hP, avS0, Tryz.results12]
   ·have g1 : decide (((t.length - r.length : Nat) : Int) = (t.length : Int)) = false := decide_eq_false (by omega)
    rw [if_neg h0] at hP
    have hlt : t.length - r.length < t.length := by omega
    have hat := encTs_at t (t.length - r.length) hlt
    have hpos : posT t (t.length - r.length) = t[t.length - r.length].pos := by unfold posT; rw [List.getD_eq_getElem?_getD, List.getElem?_eq_getElem hlt]; rfl
    rw [hpos] at hP
    simp only [go_sem, hA, ne30, encTs_length, g1, hP, avS0, Int.toNat_natCast, hat, encT, mixed, Tryz.results12]
    exact ⟨⟨by omega, by omega⟩, by show chk _ _ _ = true; kernel_rfl⟩
 rintro σ ⟨⟨x, ps⟩, s', e1, hS, rfl⟩
 have hfew := src_few e1
 obtain ⟨hpl, hpa⟩ := src_at e1
 rw [List.length_map] at hfew hpa
 rw [e1] at hP
 simp only at hP
 refine goC 300 ?_
 simp only [go_sem, hA]
 refine goCall 300 (ssource_c x (fun d hd => Nat.le_trans (hfew d hd) (by omega))) rfl (by simp only [go_sem, avS]) (by simp only [go_sem, hA]) ?_
 by_cases h0 : srcX sdeclX x = 0
 ·rw [if_pos h0] at hP
  simp only [go_sem, hA, h0, hP, avS, Tryz.results12]
 have g0 : (decide ¬srcX sdeclX x = 0) = true := decide_eq_true h0
 rw [if_neg h0] at hP
 simp only [go_sem, hA, g0]
 obtain ⟨hl1, hl2⟩ := src_lens e1
 rw [List.length_map] at hl1 hl2
 refine goCall 300 (unordered_c x (by omega) (by omega)) rfl (by simp only [go_sem, avS]) (by simp only [go_sem, hA]) ?_
 obtain ⟨hu1, hu2⟩ := unord_lt x
 by_cases h10 : srcX sdeclX x = 10
 ·have g1 : decide (srcX sdeclX x = 10) = true := decide_eq_true h10
  by_cases hi : 0 ≤ unordX x
  ·rw [if_pos ⟨h10, hi⟩] at hP
   obtain ⟨i, hi2⟩ : ∃ i : Nat, unordX x = i := ⟨(unordX x).toNat, by omega⟩
   have hlt : i < ps.length := by have := (hu2 hi).2; omega
   have hn := hpa _ (List.getElem_mem hlt)
   rw [hi2, Int.toNat_natCast, List.getD_eq_getElem?_getD, List.getElem?_eq_getElem hlt, Option.getD_some] at hP
   have g2 : decide ((0 : Int) ≤ (i : Int)) = true := decide_eq_true (by omega)
   have q2 : (encIs (ps.map (plN t))).getD i [] = [.raw (.int .i64 ((t.length - ps[i] : Nat) : Int))] := by
    simp [encIs, List.getD_eq_getElem?_getD, hlt, plN]
   have hl : (encIs (ps.map (plN t))).length = ps.length := by simp [encIs]
   have hlt2 : t.length - ps[i] < t.length := by omega
   have hat := encTs_at t (t.length - ps[i]) hlt2
   have hpos : posT t (t.length - ps[i]) = t[t.length - ps[i]].pos := by unfold posT; rw [List.getD_eq_getElem?_getD, List.getElem?_eq_getElem hlt2]; rfl
   rw [hpos] at hP
   simp only [go_sem, hA, g2, hi2, h10, hP, avS0, encTs_length, hl, Int.toNat_natCast, q2, hat, encT, mixed, Tryz.results12]
   exact ⟨⟨by omega, by omega⟩, ⟨by omega, by omega⟩, by show chk _ _ _ = true; kernel_rfl⟩
  ·rw [if_neg fun h => hi h.2] at hP
   have g2 : decide ((0 : Int) ≤ unordX x) = false := decide_eq_false hi
   simp only [go_sem, hA, g1, g2, hP, avS0, Tryz.results12]
 ·have g1 : decide (srcX sdeclX x = 10) = false := decide_eq_false h10
  rw [if_neg fun h => h10 h.1] at hP
  simp only [go_sem, hA, g1, hP, avS0, undef, Tryz.results12]
end
section
open Go Go.RowKit
abbrev aw1 : ByteArray := ⟨#[108, 101, 116, 32, 102, 32, 61, 32, 40, 120, 32, 43, 32, 49, 32, 59]⟩
abbrev aw2 : ByteArray := ⟨#[108, 101, 116, 32, 102, 32, 61, 32, 40, 120]⟩
abbrev aw3 : ByteArray := ⟨#[108, 101, 116, 32, 97, 32, 64, 50, 32, 61, 32, 49, 32, 59, 32, 108, 101, 116, 32, 98, 32, 64, 49, 32, 61, 32, 50, 32, 59]⟩
abbrev aw4 : ByteArray := ⟨#[117, 115, 101, 32, 109, 32, 59, 32, 108, 101, 116, 32, 102, 32, 61, 32, 40, 120, 32, 43, 32, 49, 41, 32, 59]⟩
abbrev awX : Sr := ⟨[⟨#[109]⟩], [⟨0, 1, false, [⟨#[102]⟩], false, .mk 10 ⟨#[43]⟩ ⟨#[]⟩ 0 0 [.mk 3 ⟨#[120]⟩ ⟨#[]⟩ 0 0 [], .mk 1 ⟨#[]⟩ ⟨#[]⟩ 1 0 []]⟩]⟩
theorem aw1_p : parseP aw1 = (sr0, 15, 3) := by kernel_rfl
theorem aw2_p : parseP aw2 = (sr0, 10, 3) := by kernel_rfl
theorem aw3_p : parseP aw3 = (sr0, 19, 10) := by kernel_rfl
theorem aw4_p : parseP aw4 = (awX, 0, 0) := by kernel_rfl
set_option maxRecDepth 100000 in
set_option maxHeartbeats 16000000 in
theorem awake22_c : Con Tryz.prog 11 [] (.d (.raw (.bool true))) := by
 have c1 := pparse_c aw1
 have c2 := pparse_c aw2
 have c3 := pparse_c aw3
 have c4 := pparse_c aw4
 rw [aw1_p] at c1
 rw [aw2_p] at c2
 rw [aw3_p] at c3
 rw [aw4_p] at c4
 refine con_of Tryz.func11 rfl (by decide +kernel) rfl rfl (by simp [Tryz.ntmps11]) fun A hA => ?_
 rw [Tryz.ntmps11] at hA
 refine goC 300 ?_
 simp only [go_sem, hA]
 refine goCall 300 c1 rfl rfl (by simp only [go_sem, hA]) ?_
 simp only [go_sem, hA, avS]
 refine goCall 300 c2 rfl rfl (by simp only [go_sem, hA]) ?_
 simp only [go_sem, hA, avS]
 refine goCall 300 c3 rfl rfl (by simp only [go_sem, hA]) ?_
 simp only [go_sem, hA, avS]
 refine goCall 600 c4 rfl rfl (by simp only [go_sem, hA]) ?_
 simp only [go_sem, hA, avS, encS, encDs, encD, List.map_cons, List.map_nil, List.length_cons, List.length_nil, Ex.kind, Ex.name, Ex.more, Ex.int, Ex.den, Ex.sub, List.getD_cons_zero, List.drop_succ_cons, List.drop_zero, Tryz.results11]
end
section
open Go Go.RowKit
inductive Kp {α : Type} (x y : PR α) (z : List KT) : Prop
 | far (a : Option α) (r : List KT) (hr : r ≠ []) (h1 : x = (a, r)) (h2 : y = (a, r ++ z))
 | fits (a : α) (h1 : x = (some a, [])) (h2 : y = (some a, z))
 | dot (a : α) (h1 : x = (some a, [])) (hd : z.head? = some (sg [46])) (h2 : (y.1 = none ∧ y.2.length < z.length) ∨ y.2.length + 2 ≤ z.length)
 | short (h1 : x = (none, [])) (h2 : y.2.length < z.length ∨ y = (none, z))
end
section
open Go Go.RowKit
end
section
open Go Go.RowKit
end
section
open Go Go.RowKit
end
section
open Go Go.RowKit
end
section
open Go Go.RowKit
section
variable {t : List LTok} {c : Cur}
theorem side_sit (h : Sit t c) : Sit t (cSide c).2 ∧ (cSide c).2.1.length ≤ c.1.length := by
 unfold cSide
 split
 ·exact (next_kt h true).2
 ·exact name_sit h
set_option maxRecDepth 100000 in
set_option maxHeartbeats 8000000 in
theorem cside (h : Sit t c) : Con Tryz.prog 166 [avX t c] (.tup [.d (.raw (.string (cSide c).1)), avX t (cSide c).2]) := by
 have w1 : Con Tryz.prog 65 [avX t c, .d (.raw (.string ⟨#[110, 105, 108]⟩))] (.d (.raw (.bool (decide (cTok c = wd wNil))))) := cword h ⟨#[110, 105, 108]⟩
 have cx := cnext h true
 have cm := cname h
 have hL : cSide c = if cTok c = wd wNil then (⟨#[]⟩, cNext true c) else ((cName c).1, (cName c).2) := rfl
 generalize cSide c = R at hL ⊢
 refine con_of Tryz.func166 rfl (by decide +kernel) rfl rfl (by simp [Tryz.ntmps166]) fun A hA => ?_
 rw [Tryz.ntmps166] at hA
 refine goC 400 ?_
 simp only [go_sem, hA]
 refine goCall 400 w1 rfl (by simp only [go_sem]) (by simp only [go_sem, hA]) ?_
 by_cases e1 : cTok c = wd wNil
 ·have k1 : decide (cTok c = wd wNil) = true := decide_eq_true e1
  rw [if_pos e1] at hL
  simp only [go_sem, hA, k1]
  refine goCall 400 cx rfl (by simp only [go_sem]) (by simp only [go_sem, hA]) ?_
  simp only [go_sem, hA, hL, Tryz.results166]
 ·have k1 : decide (cTok c = wd wNil) = false := decide_eq_false e1
  rw [if_neg e1] at hL
  simp only [go_sem, hA, k1]
  refine goCall 400 cm rfl (by simp only [go_sem]) (by simp only [go_sem, hA]) ?_
  simp only [go_sem, hA, hL, Tryz.results166]
theorem names_eq (c : Cur) : cNames c = if (cSide c).1 ≠ ⟨#[]⟩ ∧ cTok (cSide c).2 ≠ sg [124, 124] then ([(cSide c).1], (cSide c).2) else
  ([(cSide c).1, (cSide (skipX [⟨#[124, 124]⟩] (cSide c).2)).1, (cSide (skipX [⟨#[124, 124]⟩] (cSide (skipX [⟨#[124, 124]⟩] (cSide c).2)).2)).1], (cSide (skipX [⟨#[124, 124]⟩] (cSide (skipX [⟨#[124, 124]⟩] (cSide c).2)).2)).2) := rfl
theorem names_sit (h : Sit t c) : Sit t (cNames c).2 ∧ (cNames c).2.1.length ≤ c.1.length := by
 obtain ⟨h1, l1⟩ := side_sit h
 obtain ⟨h2, l2⟩ := skipX_sit [⟨#[124, 124]⟩] _ h1
 obtain ⟨h3, l3⟩ := side_sit h2
 obtain ⟨h4, l4⟩ := skipX_sit [⟨#[124, 124]⟩] _ h3
 obtain ⟨h5, l5⟩ := side_sit h4
 rw [names_eq]
 split
 ·exact ⟨h1, l1⟩
 ·exact ⟨h5, Nat.le_trans l5 (Nat.le_trans l4 (Nat.le_trans l3 (Nat.le_trans l2 l1)))⟩
set_option maxRecDepth 100000 in
set_option maxHeartbeats 16000000 in
theorem cnames (h : Sit t c) : Con Tryz.prog 125 [avX t c] (.tup [.d (.sl (encS (cNames c).1)), avX t (cNames c).2]) := by
 have q1 := cside h
 obtain ⟨h1, _⟩ := side_sit h
 have hL := names_eq c
 generalize cNames c = R at hL ⊢
 generalize (cSide c).1 = a at q1 hL
 generalize (cSide c).2 = d at q1 hL h1
 have w1 : Con Tryz.prog 85 [avX t d, .d (.raw (.string ⟨#[124, 124]⟩))] (.d (.raw (.bool (decide (cTok d = sg [124, 124]))))) := csign h1 ⟨#[124, 124]⟩
 have q2 := cskip h1 [⟨#[124, 124]⟩] (by decide) (by decide)
 obtain ⟨h2, _⟩ := skipX_sit [⟨#[124, 124]⟩] d h1
 generalize skipX [⟨#[124, 124]⟩] d = d2 at q2 h2 hL
 have q3 := cside h2
 obtain ⟨h3, _⟩ := side_sit h2
 generalize (cSide d2).1 = b at q3 hL
 generalize (cSide d2).2 = d3 at q3 hL h3
 have q4 := cskip h3 [⟨#[124, 124]⟩] (by decide) (by decide)
 obtain ⟨h4, _⟩ := skipX_sit [⟨#[124, 124]⟩] d3 h3
 generalize skipX [⟨#[124, 124]⟩] d3 = d4 at q4 h4 hL
 have q5 := cside h4
 generalize (cSide d4).1 = e at q5 hL
 generalize (cSide d4).2 = d5 at q5 hL
 refine con_of Tryz.func125 rfl (by decide +kernel) rfl rfl (by simp [Tryz.ntmps125]) fun A hA => ?_
 rw [Tryz.ntmps125] at hA
 refine goC 400 ?_
 simp only [go_sem, hA]
 refine goCall 400 q1 rfl (by simp only [go_sem]) (by simp only [go_sem, hA]) ?_
 by_cases ha : a = ⟨#[]⟩
 ·subst ha
  rw [if_neg (fun h => h.1 rfl)] at hL
  simp only [go_sem, hA, undef]
  refine goCall 400 q2 rfl (by simp only [go_sem, encS, List.map_cons, List.map_nil]) (by simp only [go_sem, hA]) ?_
  simp only [go_sem]
  refine goCall 400 q3 rfl (by simp only [go_sem]) (by simp only [go_sem, hA]) ?_
  simp only [go_sem, hA]
  refine goCall 400 q4 rfl (by simp only [go_sem, encS, List.map_cons, List.map_nil]) (by simp only [go_sem, hA]) ?_
  simp only [go_sem]
  refine goCall 400 q5 rfl (by simp only [go_sem]) (by simp only [go_sem, hA]) ?_
  simp only [go_sem, hA, mixed, hL, encS, List.map_cons, List.map_nil, Tryz.results125]
  show chk _ _ _ = true
  kernel_rfl
 ·have da : (decide ¬ a = ⟨#[]⟩) = true := by simpa using ha
  simp only [go_sem, hA, da]
  refine goCall 400 w1 rfl (by simp only [go_sem]) (by simp only [go_sem, hA]) ?_
  by_cases e1 : cTok d = sg [124, 124]
  ·have k1 : decide (cTok d = sg [124, 124]) = true := decide_eq_true e1
   rw [if_neg (fun h => h.2 e1)] at hL
   simp only [go_sem, hA, k1]
   refine goCall 400 q2 rfl (by simp only [go_sem, encS, List.map_cons, List.map_nil]) (by simp only [go_sem, hA]) ?_
   simp only [go_sem]
   refine goCall 400 q3 rfl (by simp only [go_sem]) (by simp only [go_sem, hA]) ?_
   simp only [go_sem, hA]
   refine goCall 400 q4 rfl (by simp only [go_sem, encS, List.map_cons, List.map_nil]) (by simp only [go_sem, hA]) ?_
   simp only [go_sem]
   refine goCall 400 q5 rfl (by simp only [go_sem]) (by simp only [go_sem, hA]) ?_
   simp only [go_sem, hA, mixed, hL, encS, List.map_cons, List.map_nil, Tryz.results125]
   show chk _ _ _ = true
   kernel_rfl
  ·have k1 : decide (cTok d = sg [124, 124]) = false := decide_eq_false e1
   rw [if_pos ⟨ha, e1⟩] at hL
   simp only [go_sem, hA, k1, mixed, hL, encS, List.map_cons, List.map_nil, Tryz.results125]
   show chk _ _ _ = true
   kernel_rfl
end
end
section
open Go Go.RowKit
abbrev curB (t : List LTok) (c : Cur) : Blk := .cell 69 [.d (.sl (encTs t)), .d (.raw (.int .i64 (t.length - c.1.length : Nat))), .d (.raw (.bool c.2))]
abbrev curZ : Blk := .cell 69 [.d nilD, .d (.raw (.int .i64 0)), .d (.raw (.bool false))]
abbrev ddSt (t : List LTok) (c : Cur) (id k : Int) (pub : Bool) (nm : D) (db : Bool) (b : List D) : St := ⟨[(1, .box 0 0), (2, .box 1 0), (3, .d (.raw (.int .i64 0))), (4, .box 3 0), (5, .box 1001 0)], [(0, some (curB t c)), (1, some dclZ), (3, some curZ), (1001, some (dclB id k pub nm db b))], []⟩
abbrev ddSt6 (t : List LTok) (at_ : Nat) (c : Cur) (id k : Int) (pub : Bool) (nm : D) (db : Bool) (b : List D) : St := ⟨[(1, .box 0 0), (2, .box 1 0), (3, .d (.raw (.int .i64 0))), (4, .box 3 0), (5, .box 1001 0), (6, .d (.raw (.int .i64 at_)))], [(0, some (curB t c)), (1, some dclZ), (3, some curZ), (1001, some (dclB id k pub nm db b))], []⟩
section
variable {t : List LTok} {c : Cur}
theorem flag_sit (w : List UInt8) (h : Sit t c) : Sit t (cFlag w c).2 ∧ (cFlag w c).2.1.length ≤ c.1.length := by
 unfold cFlag
 split
 ·exact (next_kt h true).2
 ·exact ⟨h, Nat.le_refl _⟩
theorem sign_short {s : List UInt8} (h : cTok c = sg s) : (cNext true c).1.length + 1 = c.1.length ∧ (cNext true c).2 = false ∧ (cNext true c).1 = c.1.tail := by
 obtain ⟨l, b⟩ := c
 cases b with
 | true => rw [cTok_bad] at h; cases h
 | false =>
  cases l with
  | nil => rw [cTok_nil] at h; cases h
  | cons y r => exact ⟨rfl, rfl, rfl⟩
theorem id_sit (h : Sit t c) : Sit t (cId c).2 ∧ (cId c).2.1.length ≤ c.1.length := by
 unfold cId
 split
 ·rename_i e
  obtain ⟨_, h1, l1⟩ := next_kt h true
  obtain ⟨h2, l2⟩ := num_sit h1
  dsimp only
  split
  ·rw [← (sign_short e).2.2]
   exact ⟨⟨h1.le, h1.eq, h1.few⟩, l1⟩
  ·exact ⟨h2, Nat.le_trans l2 l1⟩
 ·exact ⟨h, Nat.le_refl _⟩
end
theorem body_eq (pe : Cur → Ex × Cur) (db pub : Bool) (c : Cur) : cBody pe db pub c =
  (((⟨(cId (cNames (cKind c).2).2).1, (cKind c).1, pub, (cNames (cKind c).2).1, db, (pe (skipX [⟨#[61]⟩] (cId (cNames (cKind c).2).2).2)).1⟩ : Dc), (cKind c).2.1.length), skipX [⟨#[59]⟩] (pe (skipX [⟨#[61]⟩] (cId (cNames (cKind c).2).2).2)).2) := rfl
set_option maxRecDepth 100000 in
set_option maxHeartbeats 32000000 in
theorem cdecl {t : List LTok} {pe : Cur → Ex × Cur} {N : Nat} (hp : SubOK t pe N) (c : Cur) (h : Sit t c) (hN : c.1.length < N) :
  Con Tryz.prog 70 [avX t c] (.tup [avD (cDecl pe c).1.1, .d (.raw (.int .i64 (t.length - (cDecl pe c).1.2 : Nat))), avX t (cDecl pe c).2]) ∧ Sit t (cDecl pe c).2 ∧ (cDecl pe c).2.1.length ≤ c.1.length := by
 have hD : cDecl pe c = cBody pe (cFlag wConflict c).1 (cFlag wPub (cFlag wConflict c).2).1 (cFlag wPub (cFlag wConflict c).2).2 := rfl
 have hfw := h.few
 have f1 : cFlag wConflict c = if cTok c = wd wConflict then (true, cNext true c) else (false, c) := rfl
 obtain ⟨h1, l1⟩ := flag_sit wConflict h
 generalize cFlag wConflict c = F1 at f1 h1 l1 hD
 obtain ⟨db, c1⟩ := F1
 simp only at h1 l1 hD
 have f2 : cFlag wPub c1 = if cTok c1 = wd wPub then (true, cNext true c1) else (false, c1) := rfl
 obtain ⟨h2, l2⟩ := flag_sit wPub h1
 generalize cFlag wPub c1 = F2 at f2 h2 l2 hD
 obtain ⟨pub, c2⟩ := F2
 simp only at h2 l2 hD
 rw [body_eq] at hD
 have f3 : (cKind c2).1 = kindK (cTok c2) := rfl
 have x3 := cnext h2 (decide (kindK (cTok c2) ≠ 0))
 obtain ⟨_, h3, l3⟩ := next_kt h2 (decide (kindK (cTok c2) ≠ 0))
 rw [show cNext (decide (kindK (cTok c2) ≠ 0)) c2 = (cKind c2).2 from rfl] at x3 h3 l3
 rw [f3] at hD
 generalize (cKind c2).2 = c3 at x3 h3 l3 hD
 have q4 := cnames h3
 obtain ⟨h4, l4⟩ := names_sit h3
 generalize cNames c3 = F4 at q4 h4 l4 hD
 obtain ⟨ns, c4⟩ := F4
 simp only at q4 h4 l4 hD
 have f5 : cId c4 = if cTok c4 = sg [64] then ((cNum (cNext true c4)).1, if (cNum (cNext true c4)).2.2 = false ∧ (cNum (cNext true c4)).1 = 0 then (c4.1.tail, true) else (cNum (cNext true c4)).2) else (0, c4) := rfl
 obtain ⟨h5, l5⟩ := id_sit h4
 generalize cId c4 = F5 at f5 h5 l5 hD
 obtain ⟨id, c5⟩ := F5
 simp only at h5 l5 hD
 have q6 := cskip h5 [⟨#[61]⟩] (by decide) (by decide)
 obtain ⟨h6, l6⟩ := skipX_sit [⟨#[61]⟩] _ h5
 generalize skipX [⟨#[61]⟩] c5 = c6 at q6 h6 l6 hD
 obtain ⟨q7, h7, l7⟩ := hp c6 h6 (by omega)
 generalize pe c6 = F7 at q7 h7 l7 hD
 obtain ⟨e, c7⟩ := F7
 simp only at q7 h7 l7 hD
 have q8 := cskip h7 [⟨#[59]⟩] (by decide) (by decide)
 obtain ⟨h8, l8⟩ := skipX_sit [⟨#[59]⟩] _ h7
 generalize skipX [⟨#[59]⟩] c7 = c8 at q8 h8 l8 hD
 rw [hD]
 refine ⟨?_, h8, by simp only; omega⟩
 simp only
 refine con_of Tryz.func70 rfl (by decide +kernel) rfl rfl (by simp [Tryz.ntmps70]) fun A hA => ?_
 rw [Tryz.ntmps70] at hA
 refine goMid 300 [1, 2, 3, 4] [0, 1, 3] [] (fun σ => σ = (⟨[(1, .box 0 0), (2, .box 1 0), (3, .d (.raw (.int .i64 0))), (4, .box 3 0)], [(0, some (curB t c)), (1, some dclZ), (3, some curZ)], []⟩ : St)) (by simp only [go_sem, hA]; rfl) ?_
 rintro σ rfl
 refine goMid 300 [1, 2, 3, 4, 5] [0, 1, 3, 1001] [] (fun σ => σ = ddSt t c 0 0 false nilD false zeroE) (by simp only [go_sem, hA]; rfl) ?_
 rintro σ rfl
 refine goMid 400 [1, 2, 3, 4, 5] [0, 1, 3, 1001] [] (fun σ => σ = ddSt t c1 0 0 false nilD db zeroE) ?_ ?_
 ·have w1 : Con Tryz.prog 65 [avX t c, .d (.raw (.string ⟨#[99, 111, 110, 102, 108, 105, 99, 116]⟩))] (.d (.raw (.bool (decide (cTok c = wd wConflict))))) := cword h ⟨#[99, 111, 110, 102, 108, 105, 99, 116]⟩
  have cx := cnext h true
  simp only [go_sem, hA]
  refine goCall 400 w1 rfl (by simp only [go_sem]) (by simp only [go_sem, hA]) ?_
  by_cases e1 : cTok c = wd wConflict
  ·have k1 : decide (cTok c = wd wConflict) = true := decide_eq_true e1
   rw [if_pos e1] at f1
   cases f1
   simp only [go_sem, hA, k1]
   refine goCall 400 cx rfl (by simp only [go_sem]) (by simp only [go_sem, hA]) ?_
   simp only [go_sem, hA]
   try rfl
  ·have k1 : decide (cTok c = wd wConflict) = false := decide_eq_false e1
   rw [if_neg e1] at f1
   cases f1
   simp only [go_sem, k1]
   try rfl
 rintro σ rfl
 refine goMid 400 [1, 2, 3, 4, 5] [0, 1, 3, 1001] [] (fun σ => σ = ddSt t c2 0 0 pub nilD db zeroE) ?_ ?_
 ·have w1 : Con Tryz.prog 65 [avX t c1, .d (.raw (.string ⟨#[112, 117, 98]⟩))] (.d (.raw (.bool (decide (cTok c1 = wd wPub))))) := cword h1 ⟨#[112, 117, 98]⟩
  have cx := cnext h1 true
  simp only [go_sem, hA]
  refine goCall 400 w1 rfl (by simp only [go_sem]) (by simp only [go_sem, hA]) ?_
  by_cases e1 : cTok c1 = wd wPub
  ·have k1 : decide (cTok c1 = wd wPub) = true := decide_eq_true e1
   rw [if_pos e1] at f2
   cases f2
   simp only [go_sem, hA, k1]
   refine goCall 400 cx rfl (by simp only [go_sem]) (by simp only [go_sem, hA]) ?_
   simp only [go_sem, hA]
   try rfl
  ·have k1 : decide (cTok c1 = wd wPub) = false := decide_eq_false e1
   rw [if_neg e1] at f2
   cases f2
   simp only [go_sem, k1]
   try rfl
 rintro σ rfl
 refine goMid 400 [1, 2, 3, 4, 5] [0, 1, 3, 1001] [] (fun σ => σ = ddSt t c2 0 (kindK (cTok c2)) pub nilD db zeroE) ?_ ?_
 ·have fk : kindK (cTok c2) = if cTok c2 = wd wLet then 1 else if cTok c2 = wd wTest then 2 else if cTok c2 = wd wFlaky then 3 else 0 := rfl
  generalize kindK (cTok c2) = kk at fk ⊢
  simp only [go_sem, hA]
  have w1 : Con Tryz.prog 65 [avX t c2, .d (.raw (.string ⟨#[108, 101, 116]⟩))] (.d (.raw (.bool (decide (cTok c2 = wd wLet))))) := cword h2 ⟨#[108, 101, 116]⟩
  refine goCall 400 w1 rfl (by simp only [go_sem]) (by simp only [go_sem, hA]) ?_
  by_cases e1 : cTok c2 = wd wLet
  ·have k1 : decide (cTok c2 = wd wLet) = true := decide_eq_true e1
   rw [if_pos e1] at fk
   simp only [go_sem, hA, k1, fk]
   try rfl
  have k1 : decide (cTok c2 = wd wLet) = false := decide_eq_false e1
  rw [if_neg e1] at fk
  simp only [go_sem, hA, k1]
  have w2 : Con Tryz.prog 65 [avX t c2, .d (.raw (.string ⟨#[116, 101, 115, 116]⟩))] (.d (.raw (.bool (decide (cTok c2 = wd wTest))))) := cword h2 ⟨#[116, 101, 115, 116]⟩
  refine goCall 400 w2 rfl (by simp only [go_sem]) (by simp only [go_sem, hA]) ?_
  by_cases e2 : cTok c2 = wd wTest
  ·have k1 : decide (cTok c2 = wd wTest) = true := decide_eq_true e2
   rw [if_pos e2] at fk
   simp only [go_sem, hA, k1, fk]
   try rfl
  have k2 : decide (cTok c2 = wd wTest) = false := decide_eq_false e2
  rw [if_neg e2] at fk
  simp only [go_sem, hA, k2]
  have w3 : Con Tryz.prog 65 [avX t c2, .d (.raw (.string ⟨#[102, 108, 97, 107, 121]⟩))] (.d (.raw (.bool (decide (cTok c2 = wd wFlaky))))) := cword h2 ⟨#[102, 108, 97, 107, 121]⟩
  refine goCall 400 w3 rfl (by simp only [go_sem]) (by simp only [go_sem, hA]) ?_
  by_cases e3 : cTok c2 = wd wFlaky
  ·have k1 : decide (cTok c2 = wd wFlaky) = true := decide_eq_true e3
   rw [if_pos e3] at fk
   simp only [go_sem, hA, k1, fk]
   try rfl
  have k3 : decide (cTok c2 = wd wFlaky) = false := decide_eq_false e3
  rw [if_neg e3] at fk
  simp only [go_sem, hA, k3, fk]
  try rfl
 rintro σ rfl
 generalize kindK (cTok c2) = kk at x3 ⊢
 refine goMid 400 [1, 2, 3, 4, 5] [0, 1, 3, 1001] [] (fun σ => σ = ddSt t c3 0 kk pub nilD db zeroE) ?_ ?_
 ·simp only [go_sem, hA]
  refine goCall 400 x3 rfl (by simp only [go_sem]) (by simp only [go_sem, hA]) ?_
  simp only [go_sem]
  try rfl
 rintro σ rfl
 refine goMid 300 [1, 2, 3, 4, 5, 6] [0, 1, 3, 1001] [] (fun σ => σ = ddSt6 t (t.length - c3.1.length) c3 0 kk pub nilD db zeroE) (by simp only [go_sem, hA]) ?_
 rintro σ rfl
 refine goMid 400 [1, 2, 3, 4, 5, 6] [0, 1, 3, 1001] [] (fun σ => σ = ddSt6 t (t.length - c3.1.length) c4 0 kk pub (.sl (encS ns)) db zeroE) ?_ ?_
 ·simp only [go_sem, hA]
  refine goCall 400 q4 rfl (by simp only [go_sem]) (by simp only [go_sem, hA]) ?_
  simp only [go_sem, hA]
  try rfl
 rintro σ rfl
 refine goMid 400 [1, 2, 3, 4, 5, 6] [0, 1, 3, 1001] [] (fun σ => σ = ddSt6 t (t.length - c3.1.length) c5 id kk pub (.sl (encS ns)) db zeroE) ?_ ?_
 ·have w1 : Con Tryz.prog 85 [avX t c4, .d (.raw (.string ⟨#[64]⟩))] (.d (.raw (.bool (decide (cTok c4 = sg [64]))))) := csign h4 ⟨#[64]⟩
  have cx := cnext h4 true
  obtain ⟨_, g1, _⟩ := next_kt h4 true
  have cn := cnumber g1
  simp only [go_sem, hA]
  refine goCall 400 w1 rfl (by simp only [go_sem]) (by simp only [go_sem, hA]) ?_
  by_cases e1 : cTok c4 = sg [64]
  ·have k1 : decide (cTok c4 = sg [64]) = true := decide_eq_true e1
   obtain ⟨y1, y2, y3⟩ := sign_short e1
   have hle := h4.le
   rw [if_pos e1] at f5
   generalize cNext true c4 = d at cx cn f5 y1 y2 y3
   generalize cNum d = F at cn f5
   obtain ⟨n, x⟩ := F
   simp only at cn f5
   simp only [go_sem, hA, k1]
   refine goCall 400 cx rfl (by simp only [go_sem]) (by simp only [go_sem, hA]) ?_
   simp only [go_sem]
   refine goCall 400 cn rfl (by simp only [go_sem]) (by simp only [go_sem, hA]) ?_
   simp only [go_sem, hA]
   cases hb : x.2 with
   | true =>
    rw [if_neg (fun h => by rw [hb] at h; exact absurd h.1 (by decide))] at f5
    cases f5
    simp only [go_sem, hA]
    refine ⟨by show chk _ _ _ = true; kernel_rfl, ?_⟩
    simp only [ddSt6, curB, hb]
    rfl
   | false =>
    by_cases hz : n = 0
    ·rw [if_pos ⟨hb, hz⟩] at f5
     cases f5
     have d0 : decide (id = 0) = true := decide_eq_true hz
     simp only [go_sem, hA, d0]
     have hx : ((t.length - c4.1.length : Nat) : Int) + 1 = ((t.length - c4.1.tail.length : Nat) : Int) := by rw [← y3]; omega
     refine ⟨by unfold inI64; omega, by show chk _ _ _ = true; kernel_rfl, ?_⟩
     simp only [ddSt6, curB, hx]
     rfl
    ·rw [if_neg (fun h => hz h.2)] at f5
     cases f5
     have d0 : decide (id = 0) = false := decide_eq_false hz
     simp only [go_sem, hA, d0]
     refine ⟨by show chk _ _ _ = true; kernel_rfl, ?_⟩
     simp only [ddSt6, curB, hb]
     rfl
  ·have k1 : decide (cTok c4 = sg [64]) = false := decide_eq_false e1
   rw [if_neg e1] at f5
   cases f5
   simp only [go_sem, k1]
   try rfl
 rintro σ rfl
 refine goMid 400 [1, 2, 3, 4, 5, 6] [0, 1, 3, 1001] [] (fun σ => σ = ddSt6 t (t.length - c3.1.length) c7 id kk pub (.sl (encS ns)) db [.raw (.int .i64 e.kind), .raw (.string e.name), .raw (.string e.more), .raw (.int .i64 e.int), .raw (.int .i64 e.den), .sl (encL e.sub)]) ?_ ?_
 ·simp only [go_sem, hA]
  refine goCall 400 q6 rfl (by simp only [go_sem, encS, List.map_cons, List.map_nil]) (by simp only [go_sem, hA]) ?_
  simp only [go_sem]
  refine goCall 400 q7 rfl (by simp only [go_sem]) (by simp only [go_sem, hA]) ?_
  simp only [go_sem, hA, avE_eq]
  try rfl
 rintro σ rfl
 refine goC 400 ?_
 simp only [go_sem, hA, mixed]
 refine goCallD 400 q8 rfl (by simp only [go_sem, encS, List.map_cons, List.map_nil]) (by simp only [go_sem, hA]) ?_
 simp only [go_sem, hA, avD, Tryz.results70]
 show chk _ _ _ = true
 kernel_rfl
end
section
open Go Go.RowKit
abbrev srG (us : List ByteArray) (ds : List Dc) : Blk := .cell 26 [.grow 98 (encS us), .grow 99 (encDs ds)]
abbrev saSt (t : List LTok) (c : Cur) (us : List ByteArray) : St := ⟨[(1, .box 0 0), (2, .box 1 0), (3, .d nilD), (4, .box 3 0), (5, .box 1001 0)], [(0, some (curB t c)), (1, some srZ), (3, some curZ), (1001, some (srG us []))], [(98, some ⟨1, 9, us.length, none⟩), (99, some ⟨11, 57, 0, none⟩)]⟩
abbrev sbSt (t : List LTok) (c : Cur) (us : List ByteArray) (ds : List Dc) (ps : List Int) : St := ⟨[(1, .box 0 0), (2, .box 1 0), (3, .d nilD), (4, .box 3 0), (5, .box 1001 0), (7, .grow 7000 (encIs ps))], [(0, some (curB t c)), (1, some srZ), (3, some curZ), (1001, some (srG us ds))], [(7000, some ⟨1, 3, ps.length, none⟩), (98, some ⟨1, 9, us.length, none⟩), (99, some ⟨11, 57, ds.length, none⟩)]⟩
theorem uses_t {f : Nat} {c : Cur} (h : cTok c = wd wUse) : cUses (f + 1) c = (bsL (cTok (cNext true c)).2 :: (cUses f (skipX [⟨#[59]⟩] (cNext (labelT (cTok (cNext true c))) (cNext true c)))).1, (cUses f (skipX [⟨#[59]⟩] (cNext (labelT (cTok (cNext true c))) (cNext true c)))).2) := by
 rw [cUses, if_pos h]; rfl
theorem uses_f {f : Nat} {c : Cur} (h : ¬ cTok c = wd wUse) : cUses f c = ([], c) := by
 cases f with
 | zero => rfl
 | succ f => rw [cUses, if_neg h]
theorem decls_f {pe : Cur → Ex × Cur} {k : Nat} {c : Cur} (h : (c.2 || c.1.isEmpty) = true) (hk : k = 0 → c.2 = true) : cDecls pe k c = ([], c) := by
 cases k with
 | zero =>
  obtain ⟨l, b⟩ := c
  cases (hk rfl : b = true)
  rfl
 | succ k => rw [cDecls, if_pos h]
theorem decls_t {pe : Cur → Ex × Cur} {k : Nat} {c : Cur} (h : (c.2 || c.1.isEmpty) = false) : cDecls pe (k + 1) c = ((cDecl pe c).1 :: (cDecls pe k (cDecl pe c).2).1, (cDecls pe k (cDecl pe c).2).2) := by
 rw [cDecls, if_neg (by rw [h]; decide)]; rfl
theorem word_short {c : Cur} {s : List UInt8} (h : cTok c = wd s) : (cNext true c).1.length + 1 = c.1.length := by
 obtain ⟨l, b⟩ := c
 cases b with
 | true => rw [cTok_bad] at h; cases h
 | false =>
  cases l with
  | nil => rw [cTok_nil] at h; cases h
  | cons y r => rfl
set_option maxRecDepth 100000 in
set_option maxHeartbeats 32000000 in
theorem csource {t : List LTok} {c : Cur} (h : Sit t c) :
  Con Tryz.prog 32 [avX t c] (.tup [avS (cSrc (t.length + 1) c).1.1, .d (.sl (encIs ((cSrc (t.length + 1) c).1.2.map (plN t)))), avX t (cSrc (t.length + 1) c).2]) ∧ Sit t (cSrc (t.length + 1) c).2 := by
 have hfw := h.few
 have hle := h.le
 have hU : ∀ k c1, Sit t c1 → Sit t (cUses k c1).2 ∧ (cUses k c1).2.1.length ≤ c1.1.length := by
  intro k
  induction k with
  | zero => exact fun c1 h => ⟨h, Nat.le_refl _⟩
  | succ k ih =>
   intro c1 h1
   by_cases e : cTok c1 = wd wUse
   ·rw [uses_t e]
    obtain ⟨_, a1, b1⟩ := next_kt h1 true
    obtain ⟨_, a2, b2⟩ := next_kt a1 (labelT (cTok (cNext true c1)))
    obtain ⟨a3, b3⟩ := skipX_sit [⟨#[59]⟩] _ a2
    obtain ⟨a4, b4⟩ := ih _ a3
    exact ⟨a4, by simp only; omega⟩
   ·rw [uses_f e]; exact ⟨h1, Nat.le_refl _⟩
 have hp := cexpr t (t.length + 1)
 have hDl : ∀ c1, Sit t c1 → c1.2 = false → (cDecl (rE (t.length + 1)) c1).2.2 = true ∨ (cDecl (rE (t.length + 1)) c1).2.1.length < c1.1.length := by
  rintro ⟨l, b⟩ h1 hb
  simp only at hb
  subst hb
  have hr := rl_decl (t.length + 1) l
  cases hp : pDecl (t.length + 1) l with
  | mk a r =>
   rw [hp] at hr
   cases a with
   | none => left; rw [show (cDecl (rE (t.length + 1)) (l, false)).2 = (r, true) from hr]
   | some d => right; rw [show cDecl (rE (t.length + 1)) (l, false) = (d, (r, false)) from hr]; exact pDecl_len hp
 have hD : ∀ k c1, Sit t c1 → Sit t (cDecls (rE (t.length + 1)) k c1).2 := by
  intro k
  induction k with
  | zero => exact fun c1 h => ⟨h.le, h.eq, h.few⟩
  | succ k ih =>
   intro c1 h1
   rw [cDecls]
   split
   ·exact h1
   ·have hl1 := h1.le
    exact ih _ ((cdecl hp c1 h1 (by omega)).2.1)
 have hS : cSrc (t.length + 1) c = ((⟨(cUses (t.length + 1) c).1, (cDecls (rE (t.length + 1)) (t.length + 1) (cUses (t.length + 1) c).2).1.map Prod.fst⟩, (cDecls (rE (t.length + 1)) (t.length + 1) (cUses (t.length + 1) c).2).1.map Prod.snd), (cDecls (rE (t.length + 1)) (t.length + 1) (cUses (t.length + 1) c).2).2) := rfl
 rw [hS]
 obtain ⟨hU1, hU2⟩ := hU (t.length + 1) c h
 refine ⟨?_, hD _ _ hU1⟩
 simp only
 have hUe : cUses (t.length + 1) c = ((cUses (t.length + 1) c).1, (cUses (t.length + 1) c).2) := rfl
 generalize (cUses (t.length + 1) c).1 = US at hUe ⊢
 generalize (cUses (t.length + 1) c).2 = cU at hUe hU1 hU2 ⊢
 have hDe : cDecls (rE (t.length + 1)) (t.length + 1) cU = ((cDecls (rE (t.length + 1)) (t.length + 1) cU).1, (cDecls (rE (t.length + 1)) (t.length + 1) cU).2) := rfl
 generalize (cDecls (rE (t.length + 1)) (t.length + 1) cU).1 = DS at hDe ⊢
 generalize (cDecls (rE (t.length + 1)) (t.length + 1) cU).2 = cD at hDe ⊢
 rw [List.map_map]
 refine con_of Tryz.func32 rfl (by decide +kernel) rfl rfl (by simp [Tryz.ntmps32]) fun A hA => ?_
 rw [Tryz.ntmps32] at hA
 refine goMid 300 [1, 2, 3, 4] [0, 1, 3] [] (fun σ => σ = (⟨[(1, .box 0 0), (2, .box 1 0), (3, .d nilD), (4, .box 3 0)], [(0, some (curB t c)), (1, some srZ), (3, some curZ)], []⟩ : St)) (by simp only [go_sem, hA]) ?_
 rintro σ rfl
 refine goMid 300 [1, 2, 3, 4, 5] [0, 1, 3, 1001] [] (fun σ => σ = (⟨[(1, .box 0 0), (2, .box 1 0), (3, .d nilD), (4, .box 3 0), (5, .box 1001 0)], [(0, some (curB t c)), (1, some srZ), (3, some curZ), (1001, some srZ)], []⟩ : St)) (by simp only [go_sem, hA]) ?_
 rintro σ rfl
 refine satC_growCell 98 1001 0 1 9 (by simp only [go_sem]) rfl rfl ?_
 refine satC_growCell 99 1001 1 11 57 (by simp only [go_sem]) rfl rfl ?_
 refine goMid 400 [1, 2, 3, 4, 5] [0, 1, 3, 1001] [98, 99] (fun σ => σ = saSt t cU US) ?_ ?_
 ·simp only [go_sem]
  refine satC_loop [1, 2, 3, 4, 5] [0, 1, 3, 1001] [98, 99] (fun n σ => ∃ k us c1, n = c1.1.length ∧ n < k ∧ us.length + n ≤ t.length ∧ (US, cU) = (us ++ (cUses k c1).1, (cUses k c1).2) ∧ Sit t c1 ∧ σ = saSt t c1 us) c.1.length ⟨t.length + 1, [], c, rfl, by omega, by simp only [List.length_nil]; omega, by rw [List.nil_append, ← hUe], h, by simp only [go_sem]; rfl⟩ ?_
  rintro n σ ⟨k, us, c1, rfl, hk, hus, hp, h1, rfl⟩
  obtain ⟨k, rfl⟩ : ∃ k', k = k' + 1 := ⟨k - 1, by omega⟩
  have w1 : Con Tryz.prog 65 [avX t c1, .d (.raw (.string ⟨#[117, 115, 101]⟩))] (.d (.raw (.bool (decide (cTok c1 = wd wUse))))) := cword h1 ⟨#[117, 115, 101]⟩
  refine goC 400 ?_
  simp only [go_sem, hA]
  refine goCall 400 w1 rfl (by simp only [go_sem]) (by simp only [go_sem, hA]) ?_
  by_cases e1 : cTok c1 = wd wUse
  ·have k1 : decide (cTok c1 = wd wUse) = true := decide_eq_true e1
   have hsh := word_short e1
   rw [uses_t e1] at hp
   have x1 := cnext h1 true
   obtain ⟨_, h2, l2⟩ := next_kt h1 true
   generalize cNext true c1 = d at x1 h2 l2 hp hsh
   have ct := ctoken t d
   have hkt := tok_kt h2
   have htx := tokX_text h2
   have x2 := cnext h2 (labelT (cTok d))
   obtain ⟨_, h3, l3⟩ := next_kt h2 (labelT (cTok d))
   rw [← hkt] at x2 h3 l3 hp htx
   generalize cNext (labelT (kt (tokX t d))) d = d2 at x2 h3 l3 hp
   generalize tokX t d = x at ct x2 h3 l3 hp htx
   have q3 := cskip h3 [⟨#[59]⟩] (by decide) (by decide)
   obtain ⟨h4, l4⟩ := skipX_sit [⟨#[59]⟩] _ h3
   generalize skipX [⟨#[59]⟩] d2 = d3 at q3 h4 l4 hp
   simp only [go_sem, hA, k1]
   refine goCall 400 x1 rfl (by simp only [go_sem]) (by simp only [go_sem, hA]) ?_
   simp only [go_sem, hA]
   refine goCall 400 ct rfl (by simp only [go_sem]) (by simp only [go_sem, hA]) ?_
   by_cases y1 : x.kind = 1
   ·have d1 : decide (x.kind = 1) = true := decide_eq_true y1
    have el : labelT (kt x) = labelL x.text := by unfold labelT kt; simp only [d1, Bool.true_or, Bool.true_and]
    rw [el] at x2
    simp only [go_sem, hA, mixed, d1, undef]
    refine goCallD 400 (rLabel_c ⟨x.text.toArray⟩) rfl (by simp only [go_sem]) (by simp only [go_sem, hA]) ?_
    simp only [go_sem, hA]
    refine goCallD 400 x2 rfl (by simp only [go_sem]) (by simp only [go_sem, hA]) ?_
    simp only [go_sem, hA]
    refine goCallD 400 q3 rfl (by simp only [go_sem, encS, List.map_cons, List.map_nil]) (by simp only [go_sem, hA]) ?_
    simp only [go_sem, hA]
    exact ⟨by show chk _ _ _ = true; kernel_rfl, ⟨encS_length us, encS_fit [⟨x.text.toArray⟩], encS_row us, by rw [encS_length]; omega⟩, d3.1.length, by omega, k, us ++ [⟨x.text.toArray⟩], d3, rfl, by omega, by rw [List.length_append, List.length_singleton]; omega, by rw [hp, htx, List.append_assoc]; rfl, h4, by unfold saSt srG; rw [← encS_append, List.length_append]; rfl⟩
   have d1 : decide (x.kind = 1) = false := decide_eq_false y1
   by_cases y2 : x.kind = 2
   ·have d2' : decide (x.kind = 2) = true := decide_eq_true y2
    have el : labelT (kt x) = labelL x.text := by unfold labelT kt; simp only [d2', Bool.or_true, Bool.true_and]
    rw [el] at x2
    simp only [go_sem, hA, mixed, d1, d2']
    refine goCallD 400 (rLabel_c ⟨x.text.toArray⟩) rfl (by simp only [go_sem]) (by simp only [go_sem, hA]) ?_
    simp only [go_sem, hA]
    refine goCallD 400 x2 rfl (by simp only [go_sem]) (by simp only [go_sem, hA]) ?_
    simp only [go_sem, hA]
    refine goCallD 400 q3 rfl (by simp only [go_sem, encS, List.map_cons, List.map_nil]) (by simp only [go_sem, hA]) ?_
    simp only [go_sem, hA]
    exact ⟨by show chk _ _ _ = true; kernel_rfl, ⟨encS_length us, encS_fit [⟨x.text.toArray⟩], encS_row us, by rw [encS_length]; omega⟩, d3.1.length, by omega, k, us ++ [⟨x.text.toArray⟩], d3, rfl, by omega, by rw [List.length_append, List.length_singleton]; omega, by rw [hp, htx, List.append_assoc]; rfl, h4, by unfold saSt srG; rw [← encS_append, List.length_append]; rfl⟩
   have d2' : decide (x.kind = 2) = false := decide_eq_false y2
   have el : labelT (kt x) = false := by unfold labelT kt; simp only [d1, d2', Bool.or_false, Bool.false_and]
   rw [el] at x2
   simp only [go_sem, hA, mixed, d1, d2', undef]
   refine goCallD 400 x2 rfl (by simp only [go_sem]) (by simp only [go_sem, hA]) ?_
   simp only [go_sem, hA]
   refine goCallD 400 q3 rfl (by simp only [go_sem, encS, List.map_cons, List.map_nil]) (by simp only [go_sem, hA]) ?_
   simp only [go_sem, hA]
   exact ⟨by show chk _ _ _ = true; kernel_rfl, ⟨encS_length us, encS_fit [⟨x.text.toArray⟩], encS_row us, by rw [encS_length]; omega⟩, d3.1.length, by omega, k, us ++ [⟨x.text.toArray⟩], d3, rfl, by omega, by rw [List.length_append, List.length_singleton]; omega, by rw [hp, htx, List.append_assoc]; rfl, h4, by unfold saSt srG; rw [← encS_append, List.length_append]; rfl⟩
  ·have k1 : decide (cTok c1 = wd wUse) = false := decide_eq_false e1
   rw [uses_f e1, List.append_nil] at hp
   cases hp
   simp only [go_sem, k1]
 rintro σ rfl
 refine goMid 400 [1, 2, 3, 4, 5, 7] [0, 1, 3, 1001] [7000, 98, 99] (fun σ => σ = sbSt t cU US [] []) (by simp only [go_sem, hA]; rfl) ?_
 rintro σ rfl
 refine goMid 400 [1, 2, 3, 4, 5, 7] [0, 1, 3, 1001] [7000, 98, 99] (fun σ => σ = sbSt t cD US (DS.map Prod.fst) (DS.map fun d => plN t d.2)) ?_ ?_
 ·simp only [go_sem]
  refine satC_loop [1, 2, 3, 4, 5, 7] [0, 1, 3, 1001] [7000, 98, 99] (fun n σ => ∃ k ds c1, n = (bif c1.2 then 0 else c1.1.length + 1) ∧ n ≤ k ∧ ds.length + (n - 1) ≤ t.length ∧ (DS, cD) = (ds ++ (cDecls (rE (t.length + 1)) k c1).1, (cDecls (rE (t.length + 1)) k c1).2) ∧ Sit t c1 ∧ σ = sbSt t c1 US (ds.map Prod.fst) (ds.map fun d => plN t d.2)) (bif cU.2 then 0 else cU.1.length + 1) ⟨t.length + 1, [], cU, rfl, by cases cU.2 <;> simp only [cond_true, cond_false] <;> omega, by cases cU.2 <;> simp only [cond_true, cond_false, List.length_nil] <;> omega, by rw [List.nil_append, ← hDe], hU1, by simp only [go_sem]; rfl⟩ ?_
  rintro n σ ⟨k, ds, c1, rfl, hk, hds, hpd, h1, rfl⟩
  have hl1 := h1.le
  refine goC 400 ?_
  simp only [go_sem, hA]
  cases hb : c1.2 with
  | true =>
   rw [decls_f (by rw [hb]; rfl) (fun _ => hb), List.append_nil] at hpd
   cases hpd
   simp only [go_sem, hA, undef]
  | false =>
   rw [hb, cond_false] at hk hds
   cases he : c1.1.isEmpty with
   | true =>
    have hz : c1.1.length = 0 := by rw [List.isEmpty_iff.1 he]; rfl
    have d1 : decide (((t.length - c1.1.length : Nat) : Int) < (t.length : Int)) = false := decide_eq_false (by omega)
    rw [decls_f (by rw [he, Bool.or_true]) (by omega), List.append_nil] at hpd
    cases hpd
    simp only [go_sem, hA, hb, encTs_length, d1]
   | false =>
    have hz : 0 < c1.1.length := by
     cases hc : c1.1 with
     | nil => rw [hc] at he; cases he
     | cons y r => simp
    have d1 : decide (((t.length - c1.1.length : Nat) : Int) < (t.length : Int)) = true := decide_eq_true (by omega)
    obtain ⟨k, rfl⟩ : ∃ k', k = k' + 1 := ⟨k - 1, by omega⟩
    rw [decls_t (by rw [hb, he]; rfl)] at hpd
    obtain ⟨cd, h2, l2⟩ := cdecl hp c1 h1 (by omega)
    have hlt := hDl c1 h1 hb
    generalize cDecl (rE (t.length + 1)) c1 = R at cd h2 l2 hlt hpd
    obtain ⟨⟨d, m⟩, c2⟩ := R
    simp only at cd h2 l2 hlt hpd
    simp only [go_sem, hA, hb, encTs_length, d1]
    unfold avX at cd
    rw [hb] at cd
    refine goCall 67 cd rfl (by simp only [go_sem]) (by simp only [go_sem, hA]) ?_
    have hDn : (encDs (ds.map Prod.fst)).length = ds.length := by rw [encDs_length, List.length_map]
    have hIl : (encIs (ds.map fun d => plN t d.2)).length = ds.length := by rw [encIs_length, List.length_map]
    simp only [go_sem, hA, avD]
    refine goStep 300 (by simp only [go_sem]) (opOk_appendW (rows2 := encDs [d]) (k := ⟨11, 57, (ds.map Prod.fst).length, none⟩) rfl rfl rfl rfl rfl (by kernel_rfl) zero_57 (by kernel_rfl) (by rw [show Tryz.prog.cellsOf 57 = 11 by kernel_rfl]; decide) (by kernel_rfl) (by rw [show Tryz.prog.bytesOf 57 = 136 by kernel_rfl]; decide) (encDs_length _) (encDs_fit _) (fun r hr => (encDs_fit _ r hr).1) (by rw [hDn, encDs_length, List.length_singleton]; omega)) (by simp only [go_sem, hA]) ?_
    simp only [go_sem, hA]
    have hn : (bif c2.2 then 0 else c2.1.length + 1) < c1.1.length + 1 := by
     rcases hlt with e | e
     ·rw [e, cond_true]; omega
     ·cases c2.2 <;> simp only [cond_true, cond_false] <;> omega
    exact ⟨⟨by rw [encIs_length], encIs_fit [plN t m], fun r hr => (encIs_fit _ r hr).1, by rw [hIl]; omega⟩, (bif c2.2 then 0 else c2.1.length + 1), hn, k, ds ++ [(d, m)], c2, rfl, by omega, by rw [List.length_append, List.length_singleton]; omega, by rw [hpd, List.append_assoc]; rfl, h2, by
     unfold sbSt srG
     simp only [List.map_append, List.map_cons, List.map_nil, encDs, encIs, List.length_append, List.length_map, List.length_cons, List.length_nil]
     rfl⟩
 rintro σ rfl
 refine goC 400 ?_
 simp only [go_sem, hA, mixed, avS, Tryz.results32]
 refine ⟨by show chk _ _ _ = true; kernel_rfl, ?_⟩
 rfl
end
end Go.Proofs.YtnnolijagpakiaaGreatDoor
