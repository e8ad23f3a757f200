/- Texts of this proof, part 23: what the proof uses of them. -/
import Derived.Test.YtnnolijagpakiaaGreatDoorVap
import Derived.Test.YtnnolijagpakiaaGreatDoorVav
namespace Go.Proofs.YtnnolijagpakiaaGreatDoor
section
open Go Go.RowKit
abbrev avX (t : List LTok) (c : Cur) : AV := avC t (t.length - c.1.length) c.2
structure Sit (t : List LTok) (c : Cur) : Prop where
 le : c.1.length ≤ t.length
 eq : c.1 = (t.drop (t.length - c.1.length)).map kt
 few : t.length ≤ 1048576
theorem sit0 (t : List LTok) (h : t.length ≤ 1048576) : Sit t (t.map kt, false) := ⟨by simp, by simp, h⟩
def tokX (t : List LTok) (c : Cur) : LTok := tokN t (t.length - c.1.length) c.2
section
variable {t : List LTok} {c : Cur}
theorem Sit.head (h : Sit t c) {y : KT} {r : List KT} (e : c.1 = y :: r) : ∃ x, t[t.length - c.1.length]? = some x ∧ kt x = y ∧ r = (t.drop (t.length - r.length)).map kt ∧ r.length + 1 ≤ t.length ∧ t.length - r.length = t.length - c.1.length + 1 := by
 have h1 := h.eq
 have h2 := h.le
 have hl : c.1.length = r.length + 1 := by rw [e]; rfl
 rw [e] at h1
 have hlt : t.length - (y :: r).length < t.length := by simp only [List.length_cons]; omega
 rw [List.drop_eq_getElem_cons hlt, List.map_cons] at h1
 injection h1 with h3 h4
 refine ⟨t[t.length - (y :: r).length], by rw [e]; exact List.getElem?_eq_getElem hlt, h3.symm, ?_, by omega, by omega⟩
 rw [show t.length - r.length = t.length - (y :: r).length + 1 by simp only [List.length_cons]; omega]
 exact h4
theorem tok_kt (h : Sit t c) : kt (tokX t c) = cTok c := by
 obtain ⟨l, b⟩ := c
 unfold tokX tokN cTok
 cases b with
 | true => rfl
 | false =>
  simp only [Bool.false_eq_true, if_false]
  cases l with
  | nil =>
   rw [List.getD_eq_getElem?_getD, List.getElem?_eq_none (by simp)]; rfl
  | cons y r =>
   obtain ⟨x, e1, e2, _⟩ := h.head rfl
   simp only at e1
   rw [List.getD_eq_getElem?_getD, e1]
   exact e2
theorem next_kt (h : Sit t c) (b : Bool) : nextN t (t.length - c.1.length) c.2 b = (t.length - (cNext b c).1.length, (cNext b c).2) ∧ Sit t (cNext b c) ∧ (cNext b c).1.length ≤ c.1.length := by
 obtain ⟨l, bad⟩ := c
 unfold nextN cNext
 cases bad with
 | true => exact ⟨rfl, h, Nat.le_refl _⟩
 | false =>
  cases b with
  | false => exact ⟨rfl, ⟨h.le, h.eq, h.few⟩, Nat.le_refl _⟩
  | true =>
   cases l with
   | nil =>
    refine ⟨?_, ⟨h.le, h.eq, h.few⟩, Nat.le_refl _⟩
    simp
   | cons y r =>
    obtain ⟨x, e1, e2, e3, e4, e5⟩ := h.head rfl
    have h2 := h.le
    simp only [List.length_cons] at e5 h2
    refine ⟨?_, ⟨by simp only [List.isEmpty_cons, Bool.not_true, Bool.or_self, Bool.false_eq_true, if_false, List.tail_cons]; omega, e3, h.few⟩, by simp⟩
    simp only [List.isEmpty_cons, Bool.not_true, Bool.or_self, Bool.false_or, Bool.false_eq_true, if_false, List.tail_cons, List.length_cons]
    rw [if_neg (by simp; omega), e5]
theorem isN_kt (x : LTok) (k : Int) (s : ByteArray) : isN x k s = decide (kt x = (k, s.data.toList)) := by
 unfold isN kt
 rw [Bool.eq_iff_iff, Bool.and_eq_true, decide_eq_true_eq, decide_eq_true_eq, decide_eq_true_eq, Prod.mk.injEq]
 refine and_congr Iff.rfl ⟨fun h => by rw [← h], fun h => ?_⟩
 apply ba_inj
 rw [← h]
theorem ctoken (t : List LTok) (c : Cur) : Con Tryz.prog 67 [avX t c] (avK (tokX t c)) := rtoken_c t _ _
theorem cnext (h : Sit t c) (b : Bool) : Con Tryz.prog 66 [avX t c, .d (.raw (.bool b))] (avX t (cNext b c)) := by
 have h1 := rnext_c t (t.length - c.1.length) c.2 b h.few
 rw [(next_kt h b).1] at h1
 exact h1
theorem cword (h : Sit t c) (s : ByteArray) : Con Tryz.prog 65 [avX t c, .d (.raw (.string s))] (.d (.raw (.bool (decide (cTok c = (1, s.data.toList)))))) := by
 have h1 := rword_c t (t.length - c.1.length) c.2 s
 rw [isN_kt, show kt (tokN t (t.length - c.1.length) c.2) = cTok c from tok_kt h] at h1
 exact h1
theorem csign (h : Sit t c) (s : ByteArray) : Con Tryz.prog 85 [avX t c, .d (.raw (.string s))] (.d (.raw (.bool (decide (cTok c = (4, s.data.toList)))))) := by
 have h1 := rsign_c t (t.length - c.1.length) c.2 s
 rw [isN_kt, show kt (tokN t (t.length - c.1.length) c.2) = cTok c from tok_kt h] at h1
 exact h1
theorem cnamed (h : Sit t c) : Con Tryz.prog 173 [avX t c] (.d (.raw (.bool (nameT (cTok c))))) := by
 have h1 := rnamed_c t (t.length - c.1.length) c.2
 rw [show kt (tokN t (t.length - c.1.length) c.2) = cTok c from tok_kt h] at h1
 exact h1
theorem tokX_text (h : Sit t c) : (⟨(tokX t c).text.toArray⟩ : ByteArray) = bsL (cTok c).2 := by
 rw [← tok_kt h]; rfl
set_option maxRecDepth 100000 in
set_option maxHeartbeats 8000000 in
theorem cname (h : Sit t c) : Con Tryz.prog 147 [avX t c] (.tup [.d (.raw (.string (cName c).1)), avX t (cName c).2]) := by
 have e1 : (cName c).1 = ⟨(tokX t c).text.toArray⟩ := (tokX_text h).symm
 have c1 := ctoken t c
 have c2 := cnamed h
 have c3 := cnext h (nameT (cTok c))
 rw [e1, show (cName c).2 = cNext (nameT (cTok c)) c from rfl]
 refine con_of Tryz.func147 rfl (by decide +kernel) rfl rfl (by simp [Tryz.ntmps147]) fun A hA => ?_
 rw [Tryz.ntmps147] at hA
 refine goC 400 ?_
 simp only [go_sem, hA, mixed]
 refine goCallD 400 c1 rfl (by simp only [go_sem]) (by simp only [go_sem, hA]) ?_
 simp only [go_sem, hA]
 refine goCallD 400 c2 rfl (by simp only [go_sem]) (by simp only [go_sem, hA]) ?_
 simp only [go_sem]
 refine goCallD 400 c3 rfl (by simp only [go_sem]) (by simp only [go_sem, hA]) ?_
 simp only [go_sem, hA, Tryz.results147]
 show chk _ _ _ = true
 kernel_rfl
set_option maxRecDepth 100000 in
set_option maxHeartbeats 8000000 in
theorem rcheck_c (k p : Int) (s : ByteArray) : Con Tryz.prog 64 [.agg [.d (.raw (.int .i64 k)), .d (.raw (.string s)), .d (.raw (.int .i64 p))]] (.d (.raw (.int .i64 (checkL k s.data.toList p)))) := con_t1 ⟨_, Tryz.func64, by decide +kernel, rfl⟩ fun w => rcheckT_any k p s w
set_option maxRecDepth 100000 in
set_option maxHeartbeats 8000000 in
theorem cnumbered (h : Sit t c) : Con Tryz.prog 146 [avX t c] (.d (.raw (.bool (numT (cTok c))))) := by
 have c1 := ctoken t c
 rw [← tok_kt h]
 generalize tokX t c = x at c1
 refine con_of Tryz.func146 rfl (by decide +kernel) rfl rfl (by simp [Tryz.ntmps146]) fun A hA => ?_
 rw [Tryz.ntmps146] at hA
 refine goC 400 ?_
 simp only [go_sem, hA]
 refine goCall 400 c1 rfl (by simp only [go_sem]) (by simp only [go_sem, hA]) ?_
 by_cases hk : x.kind = 3
 ·have g1 : decide (x.kind = 3) = true := decide_eq_true hk
  have e : numT (kt x) = decide (checkL 3 x.text 0 = 0) := by
   unfold numT kt
   rw [g1, Bool.true_and, Bool.eq_iff_iff, decide_eq_true_eq, number_check]
  rw [e]
  simp only [go_sem, hA, g1]
  refine goCall 400 (rcheck_c x.kind 0 ⟨x.text.toArray⟩) rfl (by simp only [go_sem]) (by simp only [go_sem, hA]) ?_
  simp only [go_sem, hA, hk, Tryz.results146]
 ·have g1 : decide (x.kind = 3) = false := decide_eq_false hk
  have e : numT (kt x) = false := by unfold numT kt; rw [g1, Bool.false_and]
  rw [e]
  simp only [go_sem, hA, g1, undef, Tryz.results146]
end
def accV (l : List UInt8) : Nat := l.foldl (fun a c => if c = 45 then a else 10 * a + (c.toNat - 48)) 0
theorem accV_snoc (l : List UInt8) (c : UInt8) : accV (l ++ [c]) = if c = 45 then accV l else 10 * accV l + (c.toNat - 48) := by simp [accV]
theorem accV_digits {l : List UInt8} (h : l.all digitB = true) : accV l = valD l := by
 have key : ∀ (l : List UInt8) (a : Nat), l.all digitB = true → l.foldl (fun a c => if c = 45 then a else 10 * a + (c.toNat - 48)) a = l.foldl (fun a c => 10 * a + (c.toNat - 48)) a := by
  intro l
  induction l with
  | nil => intro a _; rfl
  | cons c l ih =>
   intro a h
   simp only [List.all_cons, Bool.and_eq_true] at h
   have hc : c ≠ 45 := by
    rintro rfl
    exact absurd h.1 (by decide)
   rw [List.foldl_cons, List.foldl_cons, if_neg hc, ih _ h.2]
 exact key l 0 h
theorem core_all {l : List UInt8} (h : numCore l = true) : l.all digitB = true := by
 unfold numCore at h
 simp only [Bool.and_eq_true] at h
 exact h.2
theorem accV_num {l : List UInt8} (h : numberL l = true) : (∀ c ∈ l, c = 45 ∨ (48 ≤ c.toNat ∧ c.toNat ≤ 57)) ∧ l ≠ [] ∧ numV l = if l.head? = some 45 then -(accV l : Int) else (accV l : Int) := by
 have hd : ∀ {c : UInt8}, digitB c = true → 48 ≤ c.toNat ∧ c.toNat ≤ 57 := fun {c} h => by
  unfold digitB isDigit at h
  simp only [Bool.and_eq_true, decide_eq_true_eq] at h
  omega
 unfold numberL at h
 split at h
 ·rename_i hp
  simp only [Bool.and_eq_true] at h
  have h1 := core_all h.1
  cases l with
  | nil => simp [Lib.hasPrefix] at hp
  | cons m l =>
   have hm : m = 45 := by
    unfold Lib.hasPrefix at hp
    simp only [List.isPrefixOf, Bool.and_true, beq_iff_eq] at hp
    exact hp.symm
   subst hm
   rw [List.tail_cons] at h1
   refine ⟨fun c hc => ?_, by simp, ?_⟩
   ·rcases List.mem_cons.1 hc with rfl | hc
    ·exact .inl rfl
    ·exact .inr (hd (List.all_eq_true.1 h1 c hc))
   ·unfold numV
    rw [List.head?_cons, if_pos rfl, if_pos rfl, List.tail_cons]
    have : accV (45 :: l) = accV l := by unfold accV; rw [List.foldl_cons, if_pos rfl]
    rw [this, accV_digits h1]
 ·have h1 := core_all h
  obtain ⟨c, q, rfl, e2, e3⟩ := core_head h
  have hc : c ≠ 45 := by
   rintro rfl
   exact absurd e2 (by decide)
  refine ⟨fun c hc => .inr (hd (List.all_eq_true.1 h1 c hc)), by simp, ?_⟩
  unfold numV
  rw [List.head?_cons, if_neg (by simpa using hc), if_neg (by simpa using hc), accV_digits h1]
theorem accV_le : ∀ (n : Nat) (l : List UInt8), l.length ≤ n → (∀ c ∈ l, c = 45 ∨ (48 ≤ c.toNat ∧ c.toNat ≤ 57)) → accV l < 10 ^ n := by
 intro n
 induction n with
 | zero => intro l hl _; rw [List.length_eq_zero_iff.1 (Nat.le_zero.1 hl)]; decide
 | succ n ih =>
  intro l hl h
  rcases List.eq_nil_or_concat l with rfl | ⟨q, c, rfl⟩
  ·exact Nat.pow_pos (by decide)
  ·have h1 := ih q (by simp at hl; omega) fun c hc => h c (by simp [hc])
   have h2 := h c (by simp)
   rw [List.concat_eq_append, accV_snoc, Nat.pow_succ]
   split
   ·omega
   ·rcases h2 with h2 | h2
    ·contradiction
    ·omega
abbrev nuSt (t : List LTok) (c : Cur) (l : List UInt8) (i : Nat) : St := ⟨[(1, .box 0 0), (3, .box 2 0), (4, .d (.raw (.string ⟨l.toArray⟩))), (5, .d (.raw (.int .i64 (accV (l.take i))))), (6, .d (.raw (.int .i64 i)))], [(0, some (.cell 69 [.d (.sl (encTs t)), .d (.raw (.int .i64 (t.length - c.1.length : Nat))), .d (.raw (.bool c.2))])), (2, some (.cell 69 [.d (.raw (.slice none 0 0)), .d (.raw (.int .i64 0)), .d (.raw (.bool false))]))], []⟩
section
variable {t : List LTok} {c : Cur}
set_option maxRecDepth 100000 in
set_option maxHeartbeats 8000000 in
theorem cnumber (h : Sit t c) : Con Tryz.prog 126 [avX t c] (.tup [.d (.raw (.int .i64 (cNum c).1)), avX t (cNum c).2]) := by
 have c1 := cnumbered h
 have c2 := cnext h false
 have c3 := cnext h true
 have c4 := ctoken t c
 have hk := tok_kt h
 unfold cNum
 refine con_of Tryz.func126 rfl (by decide +kernel) (by split <;> rfl) rfl (by simp [Tryz.ntmps126]) fun A hA => ?_
 rw [Tryz.ntmps126] at hA
 refine goC 400 ?_
 simp only [go_sem, hA]
 refine goCall 400 c1 rfl (by simp only [go_sem]) (by simp only [go_sem, hA]) ?_
 cases hn : numT (cTok c) with
 | false =>
  simp only [go_sem, hA]
  refine goCall 400 c2 rfl (by simp only [go_sem]) (by simp only [go_sem, hA]) ?_
  simp only [go_sem, hA, Bool.false_eq_true, Tryz.results126]
 | true =>
  rw [if_pos rfl, ← hk]
  rw [← hk] at hn
  generalize tokX t c = x at c4 hn
  obtain ⟨k, l, p⟩ := x
  have hl : numberL l = true := by
   unfold numT kt at hn
   simp only [Bool.and_eq_true] at hn
   exact hn.2
  obtain ⟨d1, d2, d3⟩ := accV_num hl
  have d4 := (number_atoi hl).2
  have hbl : accV l < 10000000000 := accV_le 10 l d4 d1
  simp only [go_sem, hA]
  refine goCall 400 c4 rfl (by simp only [go_sem]) (by simp only [go_sem, hA]) ?_
  simp only [go_sem, hA]
  refine satC_loop [1, 3, 4, 5, 6] [0, 2] [] (fun y σ => ∃ i : Nat, i ≤ l.length ∧ y = l.length - i ∧ σ = nuSt t c l i) l.length ⟨0, by omega, by omega, by simp only [go_sem, nuSt]; rfl⟩ ?_
  rintro y σ ⟨i, hi, rfl, rfl⟩
  have hsz : (⟨l.toArray⟩ : ByteArray).size = l.length := by show l.toArray.size = _; simp
  by_cases hlt : i < l.length
  ·have k1 : decide ((i : Int) < (l.length : Int)) = true := decide_eq_true (by omega)
   have hg : l.getD i 0 = l[i] := by rw [List.getD_eq_getElem?_getD, List.getElem?_eq_getElem hlt]; rfl
   have hs : accV (l.take (i + 1)) = if l[i] = 45 then accV (l.take i) else 10 * accV (l.take i) + (l[i].toNat - 48) := by rw [List.take_succ_eq_append_getElem hlt, accV_snoc]
   have hb : accV (l.take i) < 1000000000 := accV_le 9 (l.take i) (by rw [List.length_take]; omega) fun c hc => d1 c (List.mem_of_mem_take hc)
   have hc := d1 l[i] (List.getElem_mem hlt)
   refine goC 400 ?_
   by_cases h45 : l[i] = 45
   ·have k2 : (decide ¬((l[i].toNat : Nat) : Int) = 45) = false := decide_eq_false (by rw [h45]; decide)
    rw [if_pos h45] at hs
    simp only [go_sem, hA, nuSt, hsz, k1, Int.toNat_natCast, hg, k2]
    exact ⟨⟨by omega, by omega⟩, by unfold inI64; omega, l.length - (i + 1), by omega, i + 1, by omega, rfl, by rw [hs]; rfl⟩
   ·have k2 : (decide ¬((l[i].toNat : Nat) : Int) = 45) = true := decide_eq_true fun e => h45 (by
     apply UInt8.toNat_inj.1
     show l[i].toNat = 45
     omega)
    rw [if_neg h45] at hs
    have h48 : 48 ≤ l[i].toNat ∧ l[i].toNat ≤ 57 := hc.resolve_left h45
    have hw : IntKind.u8.wrap ((l[i].toNat : Int) - 48) = ((l[i].toNat - 48 : Nat) : Int) := by
     rw [show (l[i].toNat : Int) - 48 = ((l[i].toNat - 48 : Nat) : Int) by omega]
     have h9 : l[i].toNat - 48 ≤ 9 := by omega
     have key : ∀ d : Fin 10, IntKind.u8.wrap ((d.val : Nat) : Int) = ((d.val : Nat) : Int) := by decide
     exact key ⟨l[i].toNat - 48, by omega⟩
    have hw2 : IntKind.i64.wrap ((l[i].toNat - 48 : Nat) : Int) = ((l[i].toNat - 48 : Nat) : Int) := wrapI64 (by unfold inI64; omega)
    have hs2 : (10 : Int) * (accV (l.take i) : Int) + ((l[i].toNat - 48 : Nat) : Int) = ((accV (l.take (i + 1)) : Nat) : Int) := by rw [hs]; omega
    simp only [go_sem, hA, nuSt, hsz, k1, Int.toNat_natCast, hg, k2, hw, hw2, hs2]
    exact ⟨⟨by omega, by omega⟩, by unfold inI64; omega, ⟨by omega, by omega⟩, by unfold inI64; omega, by unfold inI64; omega, l.length - (i + 1), by omega, i + 1, by omega, rfl, rfl⟩
  ·have k1 : decide ((i : Int) < (l.length : Int)) = false := decide_eq_false (by omega)
   obtain rfl : i = l.length := by omega
   have h0 : 0 < l.length := List.length_pos_iff.2 d2
   have hg : l.getD 0 0 = l[0] := by rw [List.getD_eq_getElem?_getD, List.getElem?_eq_getElem h0]; rfl
   have hh : l.head? = some l[0] := by
    cases l with
    | nil => exact absurd rfl d2
    | cons a q => rfl
   refine goC 400 ?_
   by_cases h45 : l[0] = 45
   ·have k2 : decide (((l[0].toNat : Nat) : Int) = 45) = true := decide_eq_true (by rw [h45]; decide)
    rw [hh, h45, if_pos rfl] at d3
    have d5 : numV (kt ⟨k, l, p⟩).2 = -(accV l : Int) := d3
    simp only [go_sem, hA, nuSt, hsz, k1, List.take_length, hg, k2]
    refine ⟨by omega, by unfold inI64; omega, ?_⟩
    refine goCall 400 c3 rfl (by simp only [go_sem]) (by simp only [go_sem, hA]) ?_
    rw [d5]
    simp only [go_sem, hA, Tryz.results126]
   ·have k2 : decide (((l[0].toNat : Nat) : Int) = 45) = false := decide_eq_false fun e => h45 (by
     apply UInt8.toNat_inj.1
     show l[0].toNat = 45
     omega)
    rw [hh, if_neg (by simpa using h45)] at d3
    have d5 : numV (kt ⟨k, l, p⟩).2 = (accV l : Int) := d3
    simp only [go_sem, hA, nuSt, hsz, k1, List.take_length, hg, k2]
    refine ⟨by omega, ?_⟩
    refine goCall 400 c3 rfl (by simp only [go_sem]) (by simp only [go_sem, hA]) ?_
    rw [d5]
    simp only [go_sem, hA, Tryz.results126]
end
def ktOf (s : ByteArray) : KT := (if 97 ≤ (s.data.toList.getD 0 0).toNat ∧ (s.data.toList.getD 0 0).toNat ≤ 122 then 1 else 4, s.data.toList)
def skipX (l : List ByteArray) (c : Cur) : Cur := l.foldl (fun c s => cNext (decide (cTok c = ktOf s)) c) c
theorem skipX_snoc (l : List ByteArray) (s : ByteArray) (c : Cur) : skipX (l ++ [s]) c = cNext (decide (cTok (skipX l c) = ktOf s)) (skipX l c) := by
 unfold skipX
 rw [List.foldl_append]; rfl
theorem skipX_sit {t : List LTok} : ∀ (l : List ByteArray) (c : Cur), Sit t c → Sit t (skipX l c) ∧ (skipX l c).1.length ≤ c.1.length
 | [], c, h => ⟨h, Nat.le_refl _⟩
 | s :: l, c, h => by
  obtain ⟨_, h1, h2⟩ := next_kt h (decide (cTok c = ktOf s))
  obtain ⟨h3, h4⟩ := skipX_sit l _ h1
  exact ⟨h3, Nat.le_trans h4 h2⟩
abbrev skSt (t : List LTok) (l : List ByteArray) (c : Cur) (i : Nat) : St := ⟨[(1, .d (.sl (encS l))), (2, .box 0 0), (4, .box 1 0), (5, .d (.raw (.int .i64 i)))], [(0, some (.cell 69 [.d (.sl (encTs t)), .d (.raw (.int .i64 (t.length - c.1.length : Nat))), .d (.raw (.bool c.2))])), (1, some (.cell 69 [.d (.raw (.slice none 0 0)), .d (.raw (.int .i64 0)), .d (.raw (.bool false))]))], []⟩
set_option maxRecDepth 100000 in
set_option maxHeartbeats 16000000 in
theorem cskip {t : List LTok} {c : Cur} (h : Sit t c) (l : List ByteArray) (hl : l.length ≤ 10) (hne : ∀ s ∈ l, 0 < s.size) : Con Tryz.prog 69 [avX t c, .d (.sl (encS l))] (avX t (skipX l c)) := by
 refine con_of Tryz.func69 rfl (by decide +kernel) rfl rfl (by simp [Tryz.ntmps69]) fun A hA => ?_
 rw [Tryz.ntmps69] at hA
 refine goC 400 ?_
 simp only [go_sem, hA]
 refine satC_loop [1, 2, 4, 5] [0, 1] [] (fun y σ => ∃ i : Nat, i ≤ l.length ∧ y = l.length - i ∧ σ = skSt t l (skipX (l.take i) c) i) l.length ⟨0, by omega, by omega, by simp only [go_sem, skSt, List.take_zero]; rfl⟩ ?_
 rintro y σ ⟨i, hi, rfl, rfl⟩
 obtain ⟨hs, hle⟩ := skipX_sit (l.take i) c h
 by_cases hlt : i < l.length
 ·have k1 : decide ((i : Int) < (l.length : Int)) = true := decide_eq_true (by omega)
  have hat := encS_at l i hlt
  have hsn : skipX (l.take (i + 1)) c = cNext (decide (cTok (skipX (l.take i) c) = ktOf l[i])) (skipX (l.take i) c) := by rw [List.take_succ_eq_append_getElem hlt, skipX_snoc]
  have hpos := hne l[i] (List.getElem_mem hlt)
  generalize skipX (l.take i) c = d at hs hsn
  generalize l[i] = s at hat hsn hpos
  have hne0 : l ≠ [] := fun e => by rw [e] at hlt; exact absurd hlt (Nat.not_lt_zero _)
  refine goC 400 ?_
  by_cases h1 : 97 ≤ (s.data.toList.getD 0 0).toNat
  case neg =>
   have g1 : decide ((97 : Int) ≤ (((s.data.toList.getD 0 0).toNat : Nat) : Int)) = false := decide_eq_false (by omega)
   have hkt : ktOf s = (4, s.data.toList) := by unfold ktOf; rw [if_neg fun h => h1 h.1]
   rw [hkt] at hsn
   simp only [go_sem, hA, skSt, encS_length, k1, Int.toNat_natCast, hat, g1, undef]
   refine ⟨⟨by omega, by omega⟩, by omega, ⟨by omega, by omega⟩, ?_⟩
   refine goCallD 400 (csign hs s) rfl (by simp only [go_sem]) (by simp only [go_sem, hA]) ?_
   simp only [go_sem]
   refine goCallD 400 (cnext hs (decide (cTok d = (4, s.data.toList)))) rfl (by simp only [go_sem]) (by simp only [go_sem, hA]) ?_
   simp only [go_sem, hA]
   refine ⟨by show chk _ _ _ = true; kernel_rfl, by unfold inI64; omega, l.length - (i + 1), by omega, i + 1, by omega, rfl, by rw [hsn]; rfl⟩
  have g1 : decide ((97 : Int) ≤ (((s.data.toList.getD 0 0).toNat : Nat) : Int)) = true := decide_eq_true (by omega)
  by_cases h2 : (s.data.toList.getD 0 0).toNat ≤ 122
  ·have g2 : decide ((((s.data.toList.getD 0 0).toNat : Nat) : Int) ≤ 122) = true := decide_eq_true (by omega)
   have hkt : ktOf s = (1, s.data.toList) := by unfold ktOf; rw [if_pos ⟨h1, h2⟩]
   rw [hkt] at hsn
   simp only [go_sem, hA, skSt, encS_length, k1, Int.toNat_natCast, hat, g1, g2]
   refine ⟨⟨by omega, by omega⟩, by omega, ⟨by omega, by omega⟩, by omega, ⟨by omega, by omega⟩, ?_⟩
   refine goCallD 400 (cword hs s) rfl (by simp only [go_sem]) (by simp only [go_sem, hA]) ?_
   simp only [go_sem]
   refine goCallD 400 (cnext hs (decide (cTok d = (1, s.data.toList)))) rfl (by simp only [go_sem]) (by simp only [go_sem, hA]) ?_
   simp only [go_sem, hA]
   refine ⟨by show chk _ _ _ = true; kernel_rfl, by unfold inI64; omega, l.length - (i + 1), by omega, i + 1, by omega, rfl, by rw [hsn]; rfl⟩
  ·have g2 : decide ((((s.data.toList.getD 0 0).toNat : Nat) : Int) ≤ 122) = false := decide_eq_false (by omega)
   have hkt : ktOf s = (4, s.data.toList) := by unfold ktOf; rw [if_neg fun h => h2 h.2]
   rw [hkt] at hsn
   simp only [go_sem, hA, skSt, encS_length, k1, Int.toNat_natCast, hat, g1, g2]
   refine ⟨⟨by omega, by omega⟩, by omega, ⟨by omega, by omega⟩, by omega, ⟨by omega, by omega⟩, ?_⟩
   refine goCallD 400 (csign hs s) rfl (by simp only [go_sem]) (by simp only [go_sem, hA]) ?_
   simp only [go_sem]
   refine goCallD 400 (cnext hs (decide (cTok d = (4, s.data.toList)))) rfl (by simp only [go_sem]) (by simp only [go_sem, hA]) ?_
   simp only [go_sem, hA]
   refine ⟨by show chk _ _ _ = true; kernel_rfl, by unfold inI64; omega, l.length - (i + 1), by omega, i + 1, by omega, rfl, by rw [hsn]; rfl⟩
 ·have k1 : decide ((i : Int) < (l.length : Int)) = false := decide_eq_false (by omega)
  obtain rfl : i = l.length := by omega
  rw [List.take_length]
  refine goC 400 ?_
  simp only [go_sem, hA, skSt, encS_length, k1, Tryz.results69]
end
section
open Go Go.RowKit
section
variable {t : List LTok} {c : Cur}
theorem name_sit (h : Sit t c) : Sit t (cName c).2 ∧ (cName c).2.1.length ≤ c.1.length := (next_kt h _).2
theorem num_sit (h : Sit t c) : Sit t (cNum c).2 ∧ (cNum c).2.1.length ≤ c.1.length := by
 unfold cNum
 split
 ·exact (next_kt h true).2
 ·exact (next_kt h false).2
set_option maxRecDepth 100000 in
set_option maxHeartbeats 16000000 in
theorem cleaf (h : Sit t c) : Con Tryz.prog 86 [avX t c] (.tup [avE (cLeaf c).1, avX t (cLeaf c).2]) := by
 have cN := cnumbered h
 have cn := cnumber h
 have cx := cnext h true
 have w1 : Con Tryz.prog 65 [avX t c, .d (.raw (.string ⟨#[116, 114, 117, 101]⟩))] (.d (.raw (.bool (decide (cTok c = wd wTrue))))) := cword h ⟨#[116, 114, 117, 101]⟩
 have w2 : Con Tryz.prog 65 [avX t c, .d (.raw (.string ⟨#[102, 97, 108, 115, 101]⟩))] (.d (.raw (.bool (decide (cTok c = wd wFalse))))) := cword h ⟨#[102, 97, 108, 115, 101]⟩
 have w3 : Con Tryz.prog 65 [avX t c, .d (.raw (.string ⟨#[110, 105, 108]⟩))] (.d (.raw (.bool (decide (cTok c = wd wNil))))) := cword h ⟨#[110, 105, 108]⟩
 have cm := cname h
 obtain ⟨hs1, _⟩ := name_sit h
 have hL : cLeaf c = if numT (cTok c) then ((.mk 1 ⟨#[]⟩ ⟨#[]⟩ (cNum c).1 0 [] : Ex), (cNum c).2) else if cTok c = wd wTrue then (.mk 2 ⟨#[]⟩ ⟨#[]⟩ 1 0 [], cNext true c) else if cTok c = wd wFalse then (.mk 2 ⟨#[]⟩ ⟨#[]⟩ 0 0 [], cNext true c) else if cTok c = wd wNil then (.mk 11 ⟨#[]⟩ ⟨#[]⟩ 0 0 [], cNext true c) else
   if cTok (cName c).2 = sg [46] then (.mk 4 (cName c).1 (cName (cNext true (cName c).2)).1 0 0 [], (cName (cNext true (cName c).2)).2) else (.mk 3 (cName c).1 ⟨#[]⟩ 0 0 [], (cName c).2) := rfl
 generalize cLeaf c = R at hL ⊢
 refine con_of Tryz.func86 rfl (by decide +kernel) (by rw [avE_eq]; rfl) rfl (by simp [Tryz.ntmps86]) fun A hA => ?_
 rw [Tryz.ntmps86] at hA
 refine goC 400 ?_
 simp only [go_sem, hA]
 refine goCall 400 cN rfl (by simp only [go_sem]) (by simp only [go_sem, hA]) ?_
 cases hn : numT (cTok c) with
 | true =>
  rw [hn, if_pos rfl] at hL
  simp only [go_sem, hA]
  refine goCall 400 cn rfl (by simp only [go_sem]) (by simp only [go_sem, hA]) ?_
  simp only [go_sem, hA, hL, avE_eq, Ex.kind, Ex.name, Ex.more, Ex.int, Ex.den, Ex.sub, encL, mixed, Tryz.results86]
  show chk _ _ _ = true
  kernel_rfl
 | false =>
 rw [hn, if_neg (by decide)] at hL
 simp only [go_sem, hA]
 refine goCall 400 w1 rfl (by simp only [go_sem]) (by simp only [go_sem, hA]) ?_
 by_cases e1 : cTok c = wd wTrue
 ·have k1 : decide (cTok c = wd wTrue) = true := decide_eq_true e1
  rw [if_pos e1] at hL
  simp only [go_sem, hA, k1]
  refine goCall 400 cx rfl (by simp only [go_sem]) (by simp only [go_sem, hA]) ?_
  simp only [go_sem, hL, avE_eq, Ex.kind, Ex.name, Ex.more, Ex.int, Ex.den, Ex.sub, encL, Tryz.results86]
 have k1 : decide (cTok c = wd wTrue) = false := decide_eq_false e1
 rw [if_neg e1] at hL
 simp only [go_sem, hA, k1]
 refine goCall 400 w2 rfl (by simp only [go_sem]) (by simp only [go_sem, hA]) ?_
 by_cases e2 : cTok c = wd wFalse
 ·have k2 : decide (cTok c = wd wFalse) = true := decide_eq_true e2
  rw [if_pos e2] at hL
  simp only [go_sem, hA, k2]
  refine goCall 400 cx rfl (by simp only [go_sem]) (by simp only [go_sem, hA]) ?_
  simp only [go_sem, hL, avE_eq, Ex.kind, Ex.name, Ex.more, Ex.int, Ex.den, Ex.sub, encL, Tryz.results86]
 have k2 : decide (cTok c = wd wFalse) = false := decide_eq_false e2
 rw [if_neg e2] at hL
 simp only [go_sem, hA, k2]
 refine goCall 400 w3 rfl (by simp only [go_sem]) (by simp only [go_sem, hA]) ?_
 by_cases e3 : cTok c = wd wNil
 ·have k3 : decide (cTok c = wd wNil) = true := decide_eq_true e3
  rw [if_pos e3] at hL
  simp only [go_sem, hA, k3]
  refine goCall 400 cx rfl (by simp only [go_sem]) (by simp only [go_sem, hA]) ?_
  simp only [go_sem, hL, avE_eq, Ex.kind, Ex.name, Ex.more, Ex.int, Ex.den, Ex.sub, encL, Tryz.results86]
 have k3 : decide (cTok c = wd wNil) = false := decide_eq_false e3
 rw [if_neg e3] at hL
 simp only [go_sem, hA, k3]
 refine goCall 400 cm rfl (by simp only [go_sem]) (by simp only [go_sem, hA]) ?_
 generalize (cName c).1 = s at hL ⊢
 generalize (cName c).2 = d at hL hs1 ⊢
 have w4 : Con Tryz.prog 85 [avX t d, .d (.raw (.string ⟨#[46]⟩))] (.d (.raw (.bool (decide (cTok d = sg [46]))))) := csign hs1 ⟨#[46]⟩
 have cx2 := cnext hs1 true
 obtain ⟨_, hs2, _⟩ := next_kt hs1 true
 have cm2 := cname hs2
 simp only [go_sem, hA]
 refine goCall 400 w4 rfl (by simp only [go_sem]) (by simp only [go_sem, hA]) ?_
 by_cases e4 : cTok d = sg [46]
 ·have k4 : decide (cTok d = sg [46]) = true := decide_eq_true e4
  rw [if_pos e4] at hL
  simp only [go_sem, hA, k4]
  refine goCall 400 cx2 rfl (by simp only [go_sem]) (by simp only [go_sem, hA]) ?_
  simp only [go_sem]
  refine goCall 400 cm2 rfl (by simp only [go_sem]) (by simp only [go_sem, hA]) ?_
  simp only [go_sem, hA, hL, avE_eq, Ex.kind, Ex.name, Ex.more, Ex.int, Ex.den, Ex.sub, encL, mixed, Tryz.results86]
  show chk _ _ _ = true
  kernel_rfl
 ·have k4 : decide (cTok d = sg [46]) = false := decide_eq_false e4
  rw [if_neg e4] at hL
  simp only [go_sem, hA, k4, hL, avE_eq, Ex.kind, Ex.name, Ex.more, Ex.int, Ex.den, Ex.sub, encL, mixed, Tryz.results86]
  show chk _ _ _ = true
  kernel_rfl
theorem leaf_sit (h : Sit t c) : Sit t (cLeaf c).2 ∧ (cLeaf c).2.1.length ≤ c.1.length := by
 have h1 := (next_kt h true).2
 have h2 := name_sit h
 unfold cLeaf
 split
 ·exact num_sit h
 ·split
  ·exact h1
  ·split
   ·exact h1
   ·split
    ·exact h1
    ·have h3 := (next_kt h2.1 true).2
     have h4 := name_sit h3.1
     unfold cb
     dsimp only
     split
     ·exact ⟨h4.1, Nat.le_trans h4.2 (Nat.le_trans h3.2 h2.2)⟩
     ·exact h2
end
def addSub : Ex → Ex → Ex
 | .mk k n m i d s, x => .mk k n m i d (s ++ [x])
def SubOK (t : List LTok) (pe : Cur → Ex × Cur) (N : Nat) : Prop := ∀ c, Sit t c → c.1.length < N → Con Tryz.prog 41 [avX t c] (.tup [avE (pe c).1, avX t (pe c).2]) ∧ Sit t (pe c).2 ∧ (pe c).2.1.length ≤ c.1.length
set_option maxRecDepth 100000 in
set_option maxHeartbeats 16000000 in
theorem csub {t : List LTok} {c : Cur} {pe : Cur → Ex × Cur} {N : Nat} (hp : SubOK t pe N) (h : Sit t c) (hN : c.1.length < N) (e : Ex) (he : e.sub.length ≤ 10) : Con Tryz.prog 148 [avX t c, avE e] (.tup [avE (addSub e (pe c).1), avX t (pe c).2]) := by
 obtain ⟨ce, hs, _⟩ := hp c h hN
 generalize (pe c).1 = x at ce ⊢
 generalize (pe c).2 = d at ce hs ⊢
 obtain ⟨k, n, m, i, dd, s⟩ := e
 obtain ⟨k2, n2, m2, i2, d2, s2⟩ := x
 have hsn : encL (s ++ [.mk k2 n2 m2 i2 d2 s2]) = encL s ++ [[.raw (.int .i64 k2), .raw (.string n2), .raw (.string m2), .raw (.int .i64 i2), .raw (.int .i64 d2), .sl (encL s2)]] := by
  rw [encL_map, encL_map, List.map_append]; rfl
 refine con_of Tryz.func148 rfl (by decide +kernel) (by rw [avE_eq]; rfl) (by rw [avE_eq]; rfl) (by simp [Tryz.ntmps148]) fun A hA => ?_
 rw [Tryz.ntmps148] at hA
 refine goC 400 ?_
 simp only [go_sem, hA, avE_eq, Ex.kind, Ex.name, Ex.more, Ex.int, Ex.den, Ex.sub]
 refine goCall 400 ce rfl (by simp only [go_sem]) (by simp only [go_sem, hA]) ?_
 simp only [go_sem, hA, avE_eq, Ex.kind, Ex.name, Ex.more, Ex.int, Ex.den, Ex.sub, mixed, addSub, hsn, Tryz.results148]
 have he : s.length ≤ 10 := he
 have hl := encL_length s
 refine ⟨⟨encL_fit s, fun r hr => (by cases hr), by omega⟩, ⟨by omega, encL_fit [.mk k2 n2 m2 i2 d2 s2], fun r hr => (encL_fit s r hr).1, by omega⟩, ?_⟩
 refine ⟨by show chk _ _ _ = true; kernel_rfl, ?_⟩
 show chk _ _ _ = true
 kernel_rfl
end
section
open Go Go.RowKit
attribute [local go_sem] mixed avE_eq addSub Ex.kind Ex.name Ex.more Ex.int Ex.den Ex.sub encL List.nil_append List.cons_append encS List.map_cons List.map_nil
set_option maxRecDepth 100000 in
set_option maxHeartbeats 64000000 in
theorem cinside {t : List LTok} {c : Cur} {pe : Cur → Ex × Cur} {N : Nat} (hp : SubOK t pe N) (h : Sit t c) (hN : c.1.length < N) : Con Tryz.prog 87 [avX t c] (.tup [avE (cIn pe c).1, avX t (cIn pe c).2]) := by
 have w_fun : Con Tryz.prog 65 [avX t c, .d (.raw (.string ⟨#[102, 117, 110]⟩))] (.d (.raw (.bool (decide (cTok c = wd wFun))))) := cword h ⟨#[102, 117, 110]⟩
 have w_let : Con Tryz.prog 65 [avX t c, .d (.raw (.string ⟨#[108, 101, 116]⟩))] (.d (.raw (.bool (decide (cTok c = wd wLet))))) := cword h ⟨#[108, 101, 116]⟩
 have w_if : Con Tryz.prog 65 [avX t c, .d (.raw (.string ⟨#[105, 102]⟩))] (.d (.raw (.bool (decide (cTok c = wd wIf))))) := cword h ⟨#[105, 102]⟩
 have w_case : Con Tryz.prog 65 [avX t c, .d (.raw (.string ⟨#[99, 97, 115, 101]⟩))] (.d (.raw (.bool (decide (cTok c = wd wCase))))) := cword h ⟨#[99, 97, 115, 101]⟩
 have w_chance : Con Tryz.prog 65 [avX t c, .d (.raw (.string ⟨#[99, 104, 97, 110, 99, 101]⟩))] (.d (.raw (.bool (decide (cTok c = wd wChance))))) := cword h ⟨#[99, 104, 97, 110, 99, 101]⟩
 have w_conflict : Con Tryz.prog 65 [avX t c, .d (.raw (.string ⟨#[99, 111, 110, 102, 108, 105, 99, 116]⟩))] (.d (.raw (.bool (decide (cTok c = wd wConflict))))) := cword h ⟨#[99, 111, 110, 102, 108, 105, 99, 116]⟩
 suffices hR : ∀ R : Ex × Cur, cIn pe c = R → Con Tryz.prog 87 [avX t c] (.tup [avE R.1, avX t R.2]) from hR _ rfl
 intro R hL
 refine con_of Tryz.func87 rfl (by decide +kernel) (by rw [avE_eq]; rfl) rfl (by simp [Tryz.ntmps87]) fun A hA => ?_
 rw [Tryz.ntmps87] at hA
 refine goC 400 ?_
 simp only [go_sem, hA]
 refine goCall 400 w_fun rfl (by simp only [go_sem]) (by simp only [go_sem, hA]) ?_
 by_cases e0 : cTok c = wd wFun
 ·have k0 : decide (cTok c = wd wFun) = true := decide_eq_true e0
  have hI : cIn pe c = cFun pe (cNext true c) := by unfold cIn; rw [if_pos e0]
  rw [k0]
  have hF : R = (.mk 6 (cName (cNext true c)).1 ⟨#[]⟩ 0 0 [(pe (skipX [⟨#[45, 62]⟩] (cName (cNext true c)).2)).1], (pe (skipX [⟨#[45, 62]⟩] (cName (cNext true c)).2)).2) := by rw [← hL, hI]; rfl
  clear hL hI
  simp only [go_sem, hA]
  have q1 := cnext h true
  obtain ⟨_, z1⟩ := next_kt h true
  generalize cNext true c = d1 at q1 z1 hF
  obtain ⟨s1, l1⟩ := z1
  refine goCall 400 q1 rfl (by simp only [go_sem]) (by simp only [go_sem, hA]) ?_
  simp only [go_sem]
  have q2 := cname s1
  have z2 := name_sit s1
  generalize (cName d1).1 = n2 at q2 hF
  generalize (cName d1).2 = d2 at q2 z2 hF
  obtain ⟨s2, l2⟩ := z2
  have l2 : d2.1.length ≤ c.1.length := Nat.le_trans l2 l1
  refine goCall 400 q2 rfl (by simp only [go_sem]) (by simp only [go_sem, hA]) ?_
  simp only [go_sem, hA]
  have q3 := cskip s2 [⟨#[45, 62]⟩] (by decide) (by decide)
  have z3 := skipX_sit [⟨#[45, 62]⟩] d2 s2
  generalize skipX [⟨#[45, 62]⟩] d2 = d3 at q3 z3 hF
  obtain ⟨s3, l3⟩ := z3
  have l3 : d3.1.length ≤ c.1.length := Nat.le_trans l3 l2
  refine goCallD 400 q3 rfl (by simp only [go_sem]) (by simp only [go_sem, hA]) ?_
  simp only [go_sem, hA]
  have q4 := csub hp s3 (by omega) (.mk 6 n2 ⟨#[]⟩ 0 0 []) (by simp [Ex.sub])
  obtain ⟨_, z4⟩ := hp d3 s3 (by omega)
  generalize (pe d3).1 = a4 at q4 hF
  generalize (pe d3).2 = d4 at q4 z4 hF
  obtain ⟨s4, l4⟩ := z4
  have l4 : d4.1.length ≤ c.1.length := Nat.le_trans l4 l3
  refine goCallD 400 q4 rfl (by simp only [go_sem]) (by simp only [go_sem, hA]) ?_
  simp only [go_sem, hA, hF, Tryz.results87]
  show chk _ _ _ = true
  kernel_rfl
 have k0 : decide (cTok c = wd wFun) = false := decide_eq_false e0
 simp only [go_sem, hA, k0]
 refine goCall 400 w_let rfl (by simp only [go_sem]) (by simp only [go_sem, hA]) ?_
 by_cases e1 : cTok c = wd wLet
 ·have k1 : decide (cTok c = wd wLet) = true := decide_eq_true e1
  have hI : cIn pe c = cLet pe (cNext true c) := by unfold cIn; rw [if_neg e0, if_pos e1]
  rw [k1]
  have hF : R = (.mk 8 (cName (cNext true c)).1 ⟨#[]⟩ 0 0 [(pe (skipX [⟨#[61]⟩] (cName (cNext true c)).2)).1, (pe (skipX [⟨#[105, 110]⟩] (pe (skipX [⟨#[61]⟩] (cName (cNext true c)).2)).2)).1], (pe (skipX [⟨#[105, 110]⟩] (pe (skipX [⟨#[61]⟩] (cName (cNext true c)).2)).2)).2) := by rw [← hL, hI]; rfl
  clear hL hI
  simp only [go_sem, hA]
  have q1 := cnext h true
  obtain ⟨_, z1⟩ := next_kt h true
  generalize cNext true c = d1 at q1 z1 hF
  obtain ⟨s1, l1⟩ := z1
  refine goCall 400 q1 rfl (by simp only [go_sem]) (by simp only [go_sem, hA]) ?_
  simp only [go_sem]
  have q2 := cname s1
  have z2 := name_sit s1
  generalize (cName d1).1 = n2 at q2 hF
  generalize (cName d1).2 = d2 at q2 z2 hF
  obtain ⟨s2, l2⟩ := z2
  have l2 : d2.1.length ≤ c.1.length := Nat.le_trans l2 l1
  refine goCall 400 q2 rfl (by simp only [go_sem]) (by simp only [go_sem, hA]) ?_
  simp only [go_sem, hA]
  have q3 := cskip s2 [⟨#[61]⟩] (by decide) (by decide)
  have z3 := skipX_sit [⟨#[61]⟩] d2 s2
  generalize skipX [⟨#[61]⟩] d2 = d3 at q3 z3 hF
  obtain ⟨s3, l3⟩ := z3
  have l3 : d3.1.length ≤ c.1.length := Nat.le_trans l3 l2
  refine goCallD 400 q3 rfl (by simp only [go_sem]) (by simp only [go_sem, hA]) ?_
  simp only [go_sem, hA]
  have q4 := csub hp s3 (by omega) (.mk 8 n2 ⟨#[]⟩ 0 0 []) (by simp [Ex.sub])
  obtain ⟨_, z4⟩ := hp d3 s3 (by omega)
  generalize (pe d3).1 = a4 at q4 hF
  generalize (pe d3).2 = d4 at q4 z4 hF
  obtain ⟨s4, l4⟩ := z4
  have l4 : d4.1.length ≤ c.1.length := Nat.le_trans l4 l3
  refine goCallD 400 q4 rfl (by simp only [go_sem]) (by simp only [go_sem, hA]) ?_
  simp only [go_sem, hA]
  refine ⟨by show chk _ _ _ = true; kernel_rfl, ?_⟩
  have q5 := cskip s4 [⟨#[105, 110]⟩] (by decide) (by decide)
  have z5 := skipX_sit [⟨#[105, 110]⟩] d4 s4
  generalize skipX [⟨#[105, 110]⟩] d4 = d5 at q5 z5 hF
  obtain ⟨s5, l5⟩ := z5
  have l5 : d5.1.length ≤ c.1.length := Nat.le_trans l5 l4
  refine goCallD 400 q5 rfl (by simp only [go_sem]) (by simp only [go_sem, hA]) ?_
  simp only [go_sem, hA]
  have q6 := csub hp s5 (by omega) (.mk 8 n2 ⟨#[]⟩ 0 0 [a4]) (by simp [Ex.sub])
  obtain ⟨_, z6⟩ := hp d5 s5 (by omega)
  generalize (pe d5).1 = a6 at q6 hF
  generalize (pe d5).2 = d6 at q6 z6 hF
  obtain ⟨s6, l6⟩ := z6
  have l6 : d6.1.length ≤ c.1.length := Nat.le_trans l6 l5
  refine goCallD 400 q6 rfl (by simp only [go_sem]) (by simp only [go_sem, hA]) ?_
  simp only [go_sem, hA, hF, Tryz.results87]
  show chk _ _ _ = true
  kernel_rfl
 have k1 : decide (cTok c = wd wLet) = false := decide_eq_false e1
 simp only [go_sem, hA, k1]
 refine goCall 400 w_if rfl (by simp only [go_sem]) (by simp only [go_sem, hA]) ?_
 by_cases e2 : cTok c = wd wIf
 ·have k2 : decide (cTok c = wd wIf) = true := decide_eq_true e2
  have hI : cIn pe c = cIf pe (cNext true c) := by unfold cIn; rw [if_neg e0, if_neg e1, if_pos e2]
  rw [k2]
  have hF : R = (.mk 9 ⟨#[]⟩ ⟨#[]⟩ 0 0 [(pe (cNext true c)).1, (pe (skipX [⟨#[116, 104, 101, 110]⟩] (pe (cNext true c)).2)).1, (pe (skipX [⟨#[101, 108, 115, 101]⟩] (pe (skipX [⟨#[116, 104, 101, 110]⟩] (pe (cNext true c)).2)).2)).1], (pe (skipX [⟨#[101, 108, 115, 101]⟩] (pe (skipX [⟨#[116, 104, 101, 110]⟩] (pe (cNext true c)).2)).2)).2) := by rw [← hL, hI]; rfl
  clear hL hI
  simp only [go_sem, hA]
  have q1 := cnext h true
  obtain ⟨_, z1⟩ := next_kt h true
  generalize cNext true c = d1 at q1 z1 hF
  obtain ⟨s1, l1⟩ := z1
  refine goCallD 400 q1 rfl (by simp only [go_sem]) (by simp only [go_sem, hA]) ?_
  simp only [go_sem, hA]
  have q2 := csub hp s1 (by omega) (.mk 9 ⟨#[]⟩ ⟨#[]⟩ 0 0 []) (by simp [Ex.sub])
  obtain ⟨_, z2⟩ := hp d1 s1 (by omega)
  generalize (pe d1).1 = a2 at q2 hF
  generalize (pe d1).2 = d2 at q2 z2 hF
  obtain ⟨s2, l2⟩ := z2
  have l2 : d2.1.length ≤ c.1.length := Nat.le_trans l2 l1
  refine goCallD 400 q2 rfl (by simp only [go_sem]) (by simp only [go_sem, hA]) ?_
  simp only [go_sem, hA]
  refine ⟨by show chk _ _ _ = true; kernel_rfl, ?_⟩
  have q3 := cskip s2 [⟨#[116, 104, 101, 110]⟩] (by decide) (by decide)
  have z3 := skipX_sit [⟨#[116, 104, 101, 110]⟩] d2 s2
  generalize skipX [⟨#[116, 104, 101, 110]⟩] d2 = d3 at q3 z3 hF
  obtain ⟨s3, l3⟩ := z3
  have l3 : d3.1.length ≤ c.1.length := Nat.le_trans l3 l2
  refine goCallD 400 q3 rfl (by simp only [go_sem]) (by simp only [go_sem, hA]) ?_
  simp only [go_sem, hA]
  have q4 := csub hp s3 (by omega) (.mk 9 ⟨#[]⟩ ⟨#[]⟩ 0 0 [a2]) (by simp [Ex.sub])
  obtain ⟨_, z4⟩ := hp d3 s3 (by omega)
  generalize (pe d3).1 = a4 at q4 hF
  generalize (pe d3).2 = d4 at q4 z4 hF
  obtain ⟨s4, l4⟩ := z4
  have l4 : d4.1.length ≤ c.1.length := Nat.le_trans l4 l3
  refine goCallD 400 q4 rfl (by simp only [go_sem]) (by simp only [go_sem, hA]) ?_
  simp only [go_sem, hA]
  refine ⟨by show chk _ _ _ = true; kernel_rfl, ?_⟩
  have q5 := cskip s4 [⟨#[101, 108, 115, 101]⟩] (by decide) (by decide)
  have z5 := skipX_sit [⟨#[101, 108, 115, 101]⟩] d4 s4
  generalize skipX [⟨#[101, 108, 115, 101]⟩] d4 = d5 at q5 z5 hF
  obtain ⟨s5, l5⟩ := z5
  have l5 : d5.1.length ≤ c.1.length := Nat.le_trans l5 l4
  refine goCallD 400 q5 rfl (by simp only [go_sem]) (by simp only [go_sem, hA]) ?_
  simp only [go_sem, hA]
  have q6 := csub hp s5 (by omega) (.mk 9 ⟨#[]⟩ ⟨#[]⟩ 0 0 [a2, a4]) (by simp [Ex.sub])
  obtain ⟨_, z6⟩ := hp d5 s5 (by omega)
  generalize (pe d5).1 = a6 at q6 hF
  generalize (pe d5).2 = d6 at q6 z6 hF
  obtain ⟨s6, l6⟩ := z6
  have l6 : d6.1.length ≤ c.1.length := Nat.le_trans l6 l5
  refine goCallD 400 q6 rfl (by simp only [go_sem]) (by simp only [go_sem, hA]) ?_
  simp only [go_sem, hA, hF, Tryz.results87]
  show chk _ _ _ = true
  kernel_rfl
 have k2 : decide (cTok c = wd wIf) = false := decide_eq_false e2
 simp only [go_sem, hA, k2]
 refine goCall 400 w_case rfl (by simp only [go_sem]) (by simp only [go_sem, hA]) ?_
 by_cases e3 : cTok c = wd wCase
 ·have k3 : decide (cTok c = wd wCase) = true := decide_eq_true e3
  have hI : cIn pe c = cCase pe (cNext true c) := by unfold cIn; rw [if_neg e0, if_neg e1, if_neg e2, if_pos e3]
  rw [k3]
  have hF : R = (.mk 13 (cName (skipX [⟨#[124]⟩] (pe (skipX [⟨#[111, 102]⟩, ⟨#[110, 105, 108]⟩, ⟨#[45, 62]⟩] (pe (cNext true c)).2)).2)).1 (cName (skipX [⟨#[58, 58]⟩] (cName (skipX [⟨#[124]⟩] (pe (skipX [⟨#[111, 102]⟩, ⟨#[110, 105, 108]⟩, ⟨#[45, 62]⟩] (pe (cNext true c)).2)).2)).2)).1 0 0 [(pe (cNext true c)).1, (pe (skipX [⟨#[111, 102]⟩, ⟨#[110, 105, 108]⟩, ⟨#[45, 62]⟩] (pe (cNext true c)).2)).1, (pe (skipX [⟨#[45, 62]⟩] (cName (skipX [⟨#[58, 58]⟩] (cName (skipX [⟨#[124]⟩] (pe (skipX [⟨#[111, 102]⟩, ⟨#[110, 105, 108]⟩, ⟨#[45, 62]⟩] (pe (cNext true c)).2)).2)).2)).2)).1], (pe (skipX [⟨#[45, 62]⟩] (cName (skipX [⟨#[58, 58]⟩] (cName (skipX [⟨#[124]⟩] (pe (skipX [⟨#[111, 102]⟩, ⟨#[110, 105, 108]⟩, ⟨#[45, 62]⟩] (pe (cNext true c)).2)).2)).2)).2)).2) := by rw [← hL, hI]; rfl
  clear hL hI
  simp only [go_sem, hA]
  have q1 := cnext h true
  obtain ⟨_, z1⟩ := next_kt h true
  generalize cNext true c = d1 at q1 z1 hF
  obtain ⟨s1, l1⟩ := z1
  refine goCallD 400 q1 rfl (by simp only [go_sem]) (by simp only [go_sem, hA]) ?_
  simp only [go_sem, hA]
  have q2 := csub hp s1 (by omega) (.mk 13 ⟨#[]⟩ ⟨#[]⟩ 0 0 []) (by simp [Ex.sub])
  obtain ⟨_, z2⟩ := hp d1 s1 (by omega)
  generalize (pe d1).1 = a2 at q2 hF
  generalize (pe d1).2 = d2 at q2 z2 hF
  obtain ⟨s2, l2⟩ := z2
  have l2 : d2.1.length ≤ c.1.length := Nat.le_trans l2 l1
  refine goCallD 400 q2 rfl (by simp only [go_sem]) (by simp only [go_sem, hA]) ?_
  simp only [go_sem, hA]
  refine ⟨by show chk _ _ _ = true; kernel_rfl, ?_⟩
  have q3 := cskip s2 [⟨#[111, 102]⟩, ⟨#[110, 105, 108]⟩, ⟨#[45, 62]⟩] (by decide) (by decide)
  have z3 := skipX_sit [⟨#[111, 102]⟩, ⟨#[110, 105, 108]⟩, ⟨#[45, 62]⟩] d2 s2
  generalize skipX [⟨#[111, 102]⟩, ⟨#[110, 105, 108]⟩, ⟨#[45, 62]⟩] d2 = d3 at q3 z3 hF
  obtain ⟨s3, l3⟩ := z3
  have l3 : d3.1.length ≤ c.1.length := Nat.le_trans l3 l2
  refine goCallD 400 q3 rfl (by simp only [go_sem]) (by simp only [go_sem, hA]) ?_
  simp only [go_sem, hA]
  have q4 := csub hp s3 (by omega) (.mk 13 ⟨#[]⟩ ⟨#[]⟩ 0 0 [a2]) (by simp [Ex.sub])
  obtain ⟨_, z4⟩ := hp d3 s3 (by omega)
  generalize (pe d3).1 = a4 at q4 hF
  generalize (pe d3).2 = d4 at q4 z4 hF
  obtain ⟨s4, l4⟩ := z4
  have l4 : d4.1.length ≤ c.1.length := Nat.le_trans l4 l3
  refine goCallD 400 q4 rfl (by simp only [go_sem]) (by simp only [go_sem, hA]) ?_
  simp only [go_sem, hA]
  refine ⟨by show chk _ _ _ = true; kernel_rfl, ?_⟩
  have q5 := cskip s4 [⟨#[124]⟩] (by decide) (by decide)
  have z5 := skipX_sit [⟨#[124]⟩] d4 s4
  generalize skipX [⟨#[124]⟩] d4 = d5 at q5 z5 hF
  obtain ⟨s5, l5⟩ := z5
  have l5 : d5.1.length ≤ c.1.length := Nat.le_trans l5 l4
  refine goCall 400 q5 rfl (by simp only [go_sem]) (by simp only [go_sem, hA]) ?_
  simp only [go_sem]
  have q6 := cname s5
  have z6 := name_sit s5
  generalize (cName d5).1 = n6 at q6 hF
  generalize (cName d5).2 = d6 at q6 z6 hF
  obtain ⟨s6, l6⟩ := z6
  have l6 : d6.1.length ≤ c.1.length := Nat.le_trans l6 l5
  refine goCall 400 q6 rfl (by simp only [go_sem]) (by simp only [go_sem, hA]) ?_
  simp only [go_sem, hA]
  have q7 := cskip s6 [⟨#[58, 58]⟩] (by decide) (by decide)
  have z7 := skipX_sit [⟨#[58, 58]⟩] d6 s6
  generalize skipX [⟨#[58, 58]⟩] d6 = d7 at q7 z7 hF
  obtain ⟨s7, l7⟩ := z7
  have l7 : d7.1.length ≤ c.1.length := Nat.le_trans l7 l6
  refine goCall 400 q7 rfl (by simp only [go_sem]) (by simp only [go_sem, hA]) ?_
  simp only [go_sem]
  have q8 := cname s7
  have z8 := name_sit s7
  generalize (cName d7).1 = n8 at q8 hF
  generalize (cName d7).2 = d8 at q8 z8 hF
  obtain ⟨s8, l8⟩ := z8
  have l8 : d8.1.length ≤ c.1.length := Nat.le_trans l8 l7
  refine goCall 400 q8 rfl (by simp only [go_sem]) (by simp only [go_sem, hA]) ?_
  simp only [go_sem, hA]
  have q9 := cskip s8 [⟨#[45, 62]⟩] (by decide) (by decide)
  have z9 := skipX_sit [⟨#[45, 62]⟩] d8 s8
  generalize skipX [⟨#[45, 62]⟩] d8 = d9 at q9 z9 hF
  obtain ⟨s9, l9⟩ := z9
  have l9 : d9.1.length ≤ c.1.length := Nat.le_trans l9 l8
  refine goCallD 400 q9 rfl (by simp only [go_sem]) (by simp only [go_sem, hA]) ?_
  simp only [go_sem, hA]
  have q10 := csub hp s9 (by omega) (.mk 13 n6 n8 0 0 [a2, a4]) (by simp [Ex.sub])
  obtain ⟨_, z10⟩ := hp d9 s9 (by omega)
  generalize (pe d9).1 = a10 at q10 hF
  generalize (pe d9).2 = d10 at q10 z10 hF
  obtain ⟨s10, l10⟩ := z10
  have l10 : d10.1.length ≤ c.1.length := Nat.le_trans l10 l9
  refine goCallD 400 q10 rfl (by simp only [go_sem]) (by simp only [go_sem, hA]) ?_
  simp only [go_sem, hA, hF, Tryz.results87]
  show chk _ _ _ = true
  kernel_rfl
 have k3 : decide (cTok c = wd wCase) = false := decide_eq_false e3
 simp only [go_sem, hA, k3]
 refine goCall 400 w_chance rfl (by simp only [go_sem]) (by simp only [go_sem, hA]) ?_
 by_cases e4 : cTok c = wd wChance
 ·have k4 : decide (cTok c = wd wChance) = true := decide_eq_true e4
  have hI : cIn pe c = cChance (cNext true c) := by unfold cIn; rw [if_neg e0, if_neg e1, if_neg e2, if_neg e3, if_pos e4]
  rw [k4]
  have hF : R = (.mk 14 ⟨#[]⟩ ⟨#[]⟩ (cNum (cNext true c)).1 (cNum (skipX [⟨#[111, 102]⟩] (cNum (cNext true c)).2)).1 [], (cNum (skipX [⟨#[111, 102]⟩] (cNum (cNext true c)).2)).2) := by rw [← hL, hI]; rfl
  clear hL hI
  simp only [go_sem, hA]
  have q1 := cnext h true
  obtain ⟨_, z1⟩ := next_kt h true
  generalize cNext true c = d1 at q1 z1 hF
  obtain ⟨s1, l1⟩ := z1
  refine goCall 400 q1 rfl (by simp only [go_sem]) (by simp only [go_sem, hA]) ?_
  simp only [go_sem]
  have q2 := cnumber s1
  have z2 := num_sit s1
  generalize (cNum d1).1 = i2 at q2 hF
  generalize (cNum d1).2 = d2 at q2 z2 hF
  obtain ⟨s2, l2⟩ := z2
  have l2 : d2.1.length ≤ c.1.length := Nat.le_trans l2 l1
  refine goCall 400 q2 rfl (by simp only [go_sem]) (by simp only [go_sem, hA]) ?_
  simp only [go_sem, hA]
  have q3 := cskip s2 [⟨#[111, 102]⟩] (by decide) (by decide)
  have z3 := skipX_sit [⟨#[111, 102]⟩] d2 s2
  generalize skipX [⟨#[111, 102]⟩] d2 = d3 at q3 z3 hF
  obtain ⟨s3, l3⟩ := z3
  have l3 : d3.1.length ≤ c.1.length := Nat.le_trans l3 l2
  refine goCall 400 q3 rfl (by simp only [go_sem]) (by simp only [go_sem, hA]) ?_
  simp only [go_sem]
  have q4 := cnumber s3
  have z4 := num_sit s3
  generalize (cNum d3).1 = i4 at q4 hF
  generalize (cNum d3).2 = d4 at q4 z4 hF
  obtain ⟨s4, l4⟩ := z4
  have l4 : d4.1.length ≤ c.1.length := Nat.le_trans l4 l3
  refine goCall 400 q4 rfl (by simp only [go_sem]) (by simp only [go_sem, hA]) ?_
  simp only [go_sem, hA, hF, Tryz.results87]
  show chk _ _ _ = true
  kernel_rfl
 have k4 : decide (cTok c = wd wChance) = false := decide_eq_false e4
 simp only [go_sem, hA, k4]
 refine goCall 400 w_conflict rfl (by simp only [go_sem]) (by simp only [go_sem, hA]) ?_
 by_cases e5 : cTok c = wd wConflict
 ·have k5 : decide (cTok c = wd wConflict) = true := decide_eq_true e5
  have hI : cIn pe c = cSum pe (cNext true c) := by unfold cIn; rw [if_neg e0, if_neg e1, if_neg e2, if_neg e3, if_neg e4, if_pos e5]
  rw [k5]
  have hF : R = (.mk 15 ⟨#[]⟩ ⟨#[]⟩ 0 0 [(pe (cNext true c)).1, (pe (skipX [⟨#[124, 124]⟩] (pe (cNext true c)).2)).1, (pe (skipX [⟨#[124, 124]⟩] (pe (skipX [⟨#[124, 124]⟩] (pe (cNext true c)).2)).2)).1], (pe (skipX [⟨#[124, 124]⟩] (pe (skipX [⟨#[124, 124]⟩] (pe (cNext true c)).2)).2)).2) := by rw [← hL, hI]; rfl
  clear hL hI
  simp only [go_sem, hA]
  have q1 := cnext h true
  obtain ⟨_, z1⟩ := next_kt h true
  generalize cNext true c = d1 at q1 z1 hF
  obtain ⟨s1, l1⟩ := z1
  refine goCallD 400 q1 rfl (by simp only [go_sem]) (by simp only [go_sem, hA]) ?_
  simp only [go_sem, hA]
  have q2 := csub hp s1 (by omega) (.mk 15 ⟨#[]⟩ ⟨#[]⟩ 0 0 []) (by simp [Ex.sub])
  obtain ⟨_, z2⟩ := hp d1 s1 (by omega)
  generalize (pe d1).1 = a2 at q2 hF
  generalize (pe d1).2 = d2 at q2 z2 hF
  obtain ⟨s2, l2⟩ := z2
  have l2 : d2.1.length ≤ c.1.length := Nat.le_trans l2 l1
  refine goCallD 400 q2 rfl (by simp only [go_sem]) (by simp only [go_sem, hA]) ?_
  simp only [go_sem, hA]
  refine ⟨by show chk _ _ _ = true; kernel_rfl, ?_⟩
  have q3 := cskip s2 [⟨#[124, 124]⟩] (by decide) (by decide)
  have z3 := skipX_sit [⟨#[124, 124]⟩] d2 s2
  generalize skipX [⟨#[124, 124]⟩] d2 = d3 at q3 z3 hF
  obtain ⟨s3, l3⟩ := z3
  have l3 : d3.1.length ≤ c.1.length := Nat.le_trans l3 l2
  refine goCallD 400 q3 rfl (by simp only [go_sem]) (by simp only [go_sem, hA]) ?_
  simp only [go_sem, hA]
  have q4 := csub hp s3 (by omega) (.mk 15 ⟨#[]⟩ ⟨#[]⟩ 0 0 [a2]) (by simp [Ex.sub])
  obtain ⟨_, z4⟩ := hp d3 s3 (by omega)
  generalize (pe d3).1 = a4 at q4 hF
  generalize (pe d3).2 = d4 at q4 z4 hF
  obtain ⟨s4, l4⟩ := z4
  have l4 : d4.1.length ≤ c.1.length := Nat.le_trans l4 l3
  refine goCallD 400 q4 rfl (by simp only [go_sem]) (by simp only [go_sem, hA]) ?_
  simp only [go_sem, hA]
  refine ⟨by show chk _ _ _ = true; kernel_rfl, ?_⟩
  have q5 := cskip s4 [⟨#[124, 124]⟩] (by decide) (by decide)
  have z5 := skipX_sit [⟨#[124, 124]⟩] d4 s4
  generalize skipX [⟨#[124, 124]⟩] d4 = d5 at q5 z5 hF
  obtain ⟨s5, l5⟩ := z5
  have l5 : d5.1.length ≤ c.1.length := Nat.le_trans l5 l4
  refine goCallD 400 q5 rfl (by simp only [go_sem]) (by simp only [go_sem, hA]) ?_
  simp only [go_sem, hA]
  have q6 := csub hp s5 (by omega) (.mk 15 ⟨#[]⟩ ⟨#[]⟩ 0 0 [a2, a4]) (by simp [Ex.sub])
  obtain ⟨_, z6⟩ := hp d5 s5 (by omega)
  generalize (pe d5).1 = a6 at q6 hF
  generalize (pe d5).2 = d6 at q6 z6 hF
  obtain ⟨s6, l6⟩ := z6
  have l6 : d6.1.length ≤ c.1.length := Nat.le_trans l6 l5
  refine goCallD 400 q6 rfl (by simp only [go_sem]) (by simp only [go_sem, hA]) ?_
  simp only [go_sem, hA, hF, Tryz.results87]
  show chk _ _ _ = true
  kernel_rfl
 have k5 : decide (cTok c = wd wConflict) = false := decide_eq_false e5
 simp only [go_sem, hA, k5]
 have hI : cIn pe c = cTail pe (pe c).1 (pe c).2 := by unfold cIn; rw [if_neg e0, if_neg e1, if_neg e2, if_neg e3, if_neg e4, if_neg e5]; rfl
 rw [hI] at hL
 clear hI
 have q1 := csub hp h hN (.mk 7 ⟨#[]⟩ ⟨#[]⟩ 0 0 []) (by simp [Ex.sub])
 obtain ⟨_, z1⟩ := hp c h hN
 generalize (pe c).1 = a at q1 hL
 generalize (pe c).2 = d at q1 z1 hL
 obtain ⟨s1, l1⟩ := z1
 have q2 := ctoken t d
 have hx := tokX_text s1
 have q3 : Con Tryz.prog 85 [avX t d, .d (.raw (.string ⟨#[58, 58]⟩))] (.d (.raw (.bool (decide (cTok d = sg [58, 58]))))) := csign s1 ⟨#[58, 58]⟩
 have q4 := cnext s1 true
 obtain ⟨_, s2, l2⟩ := next_kt s1 true
 refine goCall 400 q1 rfl (by simp only [go_sem]) (by simp only [go_sem, hA]) ?_
 simp only [go_sem, hA]
 refine goCall 400 q2 rfl (by simp only [go_sem]) (by simp only [go_sem, hA]) ?_
 simp only [go_sem, hA]
 refine goCall 400 q3 rfl (by simp only [go_sem]) (by simp only [go_sem, hA]) ?_
 unfold cTail at hL
 by_cases e6 : cTok d = sg [58, 58]
 ·have k6 : decide (cTok d = sg [58, 58]) = true := decide_eq_true e6
  rw [if_pos e6] at hL
  have hF : R = (.mk 12 ⟨#[]⟩ ⟨#[]⟩ 0 0 [a, (pe (cNext true d)).1], (pe (cNext true d)).2) := by rw [← hL]; rfl
  clear hL
  have q5 := csub hp s2 (by omega) (.mk 12 ⟨#[]⟩ ⟨#[]⟩ 0 0 [a]) (by simp [Ex.sub])
  generalize (pe (cNext true d)).1 = b at q5 hF
  generalize (pe (cNext true d)).2 = d2 at q5 hF
  simp only [go_sem, hA, k6]
  refine goCall 400 q4 rfl (by simp only [go_sem]) (by simp only [go_sem, hA]) ?_
  simp only [go_sem, hA]
  refine goCall 400 q5 rfl (by simp only [go_sem]) (by simp only [go_sem, hA]) ?_
  simp only [go_sem, hA, hF, Tryz.results87]
 have k6 : decide (cTok d = sg [58, 58]) = false := decide_eq_false e6
 rw [if_neg e6] at hL
 simp only [go_sem, hA, k6]
 have v0 : Con Tryz.prog 85 [avX t d, .d (.raw (.string ⟨#[43]⟩))] (.d (.raw (.bool (decide (cTok d = sg [43]))))) := csign s1 ⟨#[43]⟩
 refine goCall 400 v0 rfl (by simp only [go_sem]) (by simp only [go_sem, hA]) ?_
 by_cases o0 : cTok d = sg [43]
 ·have g0 : decide (cTok d = sg [43]) = true := decide_eq_true o0
  have ho : opT (cTok d) = true := by rw [o0]; decide
  rw [ho, if_pos rfl] at hL
  have hF : R = (.mk 10 (bsL (cTok d).2) ⟨#[]⟩ 0 0 [a, (pe (cNext true d)).1], (pe (cNext true d)).2) := by rw [← hL]; rfl
  clear hL
  have q5 := csub hp s2 (by omega) (.mk 10 (bsL (cTok d).2) ⟨#[]⟩ 0 0 [a]) (by simp [Ex.sub])
  generalize (pe (cNext true d)).1 = b at q5 hF
  generalize (pe (cNext true d)).2 = d2 at q5 hF
  simp only [go_sem, hA, g0, hx, undef]
  refine goCall 400 q4 rfl (by simp only [go_sem]) (by simp only [go_sem, hA]) ?_
  simp only [go_sem, hA]
  refine goCall 400 q5 rfl (by simp only [go_sem]) (by simp only [go_sem, hA]) ?_
  simp only [go_sem, hA, hF, Tryz.results87]
 have g0 : decide (cTok d = sg [43]) = false := decide_eq_false o0
 simp only [go_sem, hA, g0]
 have v1 : Con Tryz.prog 85 [avX t d, .d (.raw (.string ⟨#[45]⟩))] (.d (.raw (.bool (decide (cTok d = sg [45]))))) := csign s1 ⟨#[45]⟩
 refine goCall 400 v1 rfl (by simp only [go_sem]) (by simp only [go_sem, hA]) ?_
 by_cases o1 : cTok d = sg [45]
 ·have g1 : decide (cTok d = sg [45]) = true := decide_eq_true o1
  have ho : opT (cTok d) = true := by rw [o1]; decide
  rw [ho, if_pos rfl] at hL
  have hF : R = (.mk 10 (bsL (cTok d).2) ⟨#[]⟩ 0 0 [a, (pe (cNext true d)).1], (pe (cNext true d)).2) := by rw [← hL]; rfl
  clear hL
  have q5 := csub hp s2 (by omega) (.mk 10 (bsL (cTok d).2) ⟨#[]⟩ 0 0 [a]) (by simp [Ex.sub])
  generalize (pe (cNext true d)).1 = b at q5 hF
  generalize (pe (cNext true d)).2 = d2 at q5 hF
  simp only [go_sem, hA, g1, hx, undef]
  refine goCall 400 q4 rfl (by simp only [go_sem]) (by simp only [go_sem, hA]) ?_
  simp only [go_sem, hA]
  refine goCall 400 q5 rfl (by simp only [go_sem]) (by simp only [go_sem, hA]) ?_
  simp only [go_sem, hA, hF, Tryz.results87]
 have g1 : decide (cTok d = sg [45]) = false := decide_eq_false o1
 simp only [go_sem, hA, g1]
 have v2 : Con Tryz.prog 85 [avX t d, .d (.raw (.string ⟨#[42]⟩))] (.d (.raw (.bool (decide (cTok d = sg [42]))))) := csign s1 ⟨#[42]⟩
 refine goCall 400 v2 rfl (by simp only [go_sem]) (by simp only [go_sem, hA]) ?_
 by_cases o2 : cTok d = sg [42]
 ·have g2 : decide (cTok d = sg [42]) = true := decide_eq_true o2
  have ho : opT (cTok d) = true := by rw [o2]; decide
  rw [ho, if_pos rfl] at hL
  have hF : R = (.mk 10 (bsL (cTok d).2) ⟨#[]⟩ 0 0 [a, (pe (cNext true d)).1], (pe (cNext true d)).2) := by rw [← hL]; rfl
  clear hL
  have q5 := csub hp s2 (by omega) (.mk 10 (bsL (cTok d).2) ⟨#[]⟩ 0 0 [a]) (by simp [Ex.sub])
  generalize (pe (cNext true d)).1 = b at q5 hF
  generalize (pe (cNext true d)).2 = d2 at q5 hF
  simp only [go_sem, hA, g2, hx, undef]
  refine goCall 400 q4 rfl (by simp only [go_sem]) (by simp only [go_sem, hA]) ?_
  simp only [go_sem, hA]
  refine goCall 400 q5 rfl (by simp only [go_sem]) (by simp only [go_sem, hA]) ?_
  simp only [go_sem, hA, hF, Tryz.results87]
 have g2 : decide (cTok d = sg [42]) = false := decide_eq_false o2
 simp only [go_sem, hA, g2]
 have v3 : Con Tryz.prog 85 [avX t d, .d (.raw (.string ⟨#[61]⟩))] (.d (.raw (.bool (decide (cTok d = sg [61]))))) := csign s1 ⟨#[61]⟩
 refine goCall 400 v3 rfl (by simp only [go_sem]) (by simp only [go_sem, hA]) ?_
 by_cases o3 : cTok d = sg [61]
 ·have g3 : decide (cTok d = sg [61]) = true := decide_eq_true o3
  have ho : opT (cTok d) = true := by rw [o3]; decide
  rw [ho, if_pos rfl] at hL
  have hF : R = (.mk 10 (bsL (cTok d).2) ⟨#[]⟩ 0 0 [a, (pe (cNext true d)).1], (pe (cNext true d)).2) := by rw [← hL]; rfl
  clear hL
  have q5 := csub hp s2 (by omega) (.mk 10 (bsL (cTok d).2) ⟨#[]⟩ 0 0 [a]) (by simp [Ex.sub])
  generalize (pe (cNext true d)).1 = b at q5 hF
  generalize (pe (cNext true d)).2 = d2 at q5 hF
  simp only [go_sem, hA, g3, hx, undef]
  refine goCall 400 q4 rfl (by simp only [go_sem]) (by simp only [go_sem, hA]) ?_
  simp only [go_sem, hA]
  refine goCall 400 q5 rfl (by simp only [go_sem]) (by simp only [go_sem, hA]) ?_
  simp only [go_sem, hA, hF, Tryz.results87]
 have g3 : decide (cTok d = sg [61]) = false := decide_eq_false o3
 simp only [go_sem, hA, g3]
 have v4 : Con Tryz.prog 85 [avX t d, .d (.raw (.string ⟨#[60]⟩))] (.d (.raw (.bool (decide (cTok d = sg [60]))))) := csign s1 ⟨#[60]⟩
 refine goCall 400 v4 rfl (by simp only [go_sem]) (by simp only [go_sem, hA]) ?_
 by_cases o4 : cTok d = sg [60]
 ·have g4 : decide (cTok d = sg [60]) = true := decide_eq_true o4
  have ho : opT (cTok d) = true := by rw [o4]; decide
  rw [ho, if_pos rfl] at hL
  have hF : R = (.mk 10 (bsL (cTok d).2) ⟨#[]⟩ 0 0 [a, (pe (cNext true d)).1], (pe (cNext true d)).2) := by rw [← hL]; rfl
  clear hL
  have q5 := csub hp s2 (by omega) (.mk 10 (bsL (cTok d).2) ⟨#[]⟩ 0 0 [a]) (by simp [Ex.sub])
  generalize (pe (cNext true d)).1 = b at q5 hF
  generalize (pe (cNext true d)).2 = d2 at q5 hF
  simp only [go_sem, hA, g4, hx]
  refine goCall 400 q4 rfl (by simp only [go_sem]) (by simp only [go_sem, hA]) ?_
  simp only [go_sem, hA]
  refine goCall 400 q5 rfl (by simp only [go_sem]) (by simp only [go_sem, hA]) ?_
  simp only [go_sem, hA, hF, Tryz.results87]
 have g4 : decide (cTok d = sg [60]) = false := decide_eq_false o4
 simp only [go_sem, hA, g4]
 have ho : opT (cTok d) = false := by
  cases hh : opT (cTok d) with
  | false => rfl
  | true =>
   exfalso
   unfold opT at hh
   simp only [Bool.and_eq_true, decide_eq_true_eq] at hh
   obtain ⟨cc, hc, hcs, _⟩ := op_sign hh.2
   have h2 : (cTok d).2 = [cc] := by
    have := congrArg (fun x : ByteArray => x.data.toList) hc
    exact this
   have h3 : cTok d = sg [cc] := Prod.ext hh.1 h2
   rcases hcs with rfl | rfl | rfl | rfl | rfl
   ·exact o0 h3
   ·exact o1 h3
   ·exact o2 h3
   ·exact o3 h3
   ·exact o4 h3
 rw [ho, if_neg (by decide)] at hL
 have hF : R = (.mk 7 ⟨#[]⟩ ⟨#[]⟩ 0 0 [a, (pe d).1], (pe d).2) := by rw [← hL]; rfl
 clear hL
 have q5 := csub hp s1 (by omega) (.mk 7 ⟨#[]⟩ ⟨#[]⟩ 0 0 [a]) (by simp [Ex.sub])
 generalize (pe d).1 = b at q5 hF
 generalize (pe d).2 = d2 at q5 hF
 refine goCall 400 q5 rfl (by simp only [go_sem]) (by simp only [go_sem, hA]) ?_
 simp only [go_sem, hA, hF, Tryz.results87]
end
end Go.Proofs.YtnnolijagpakiaaGreatDoor
