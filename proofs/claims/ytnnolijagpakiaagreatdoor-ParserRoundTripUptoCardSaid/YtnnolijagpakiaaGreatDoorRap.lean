/- Texts of this proof, part 16: what the proof uses of them. -/
import Derived.Test.YtnnolijagpakiaaGreatDoorRao
import Derived.Test.YtnnolijagpakiaaGreatDoorRan
import Derived.Test.YtnnolijagpakiaaGreatDoorRah
import Derived.Test.YtnnolijagpakiaaGreatDoorRae
namespace Go.Proofs.YtnnolijagpakiaaGreatDoor
open Go Go.RowKit
def namesX (l : List ByteArray) : Int := if ¬ l.length = 1 ∧ ¬ l.length = 3 then 1 else if l.any (badName l) then 6 else 0
abbrev dnSt (l : List ByteArray) (q : Nat) : St := ⟨[(0, .d (.sl (encS l))), (13, .d (.sl (encS l))), (14, .d (.raw (.int .i64 l.length))), (15, .d (.raw (.int .i64 q)))], [], []⟩
set_option maxRecDepth 100000 in
set_option maxHeartbeats 8000000 in
theorem declNames_c (l : List ByteArray) : Con Tryz.prog 114 [.d (.sl (encS l))] (.d (.raw (.int .i64 (namesX l)))) := by
 refine con_of Tryz.func114 rfl (by decide +kernel) rfl rfl (by simp [Tryz.ntmps114]) fun A hA => ?_
 rw [Tryz.ntmps114] at hA
 refine goC 400 ?_
 by_cases h5 : ¬ l.length = 1 ∧ ¬ l.length = 3
 ·have g5 : (decide ¬ (l.length : Int) = 1) = true := decide_eq_true (by omega)
  have g6 : (decide ¬ (l.length : Int) = 3) = true := decide_eq_true (by omega)
  have he : namesX l = 1 := by unfold namesX; rw [if_pos h5]
  simp only [go_sem, hA, g5, g6, encS_length, he, Tryz.results114]
 have h6 : l.length = 1 ∨ (¬ l.length = 1 ∧ l.length = 3) := by omega
 have he : namesX l = if l.any (badName l) then 6 else 0 := by unfold namesX; rw [if_neg h5]
 rcases h6 with h6 | ⟨h6, h7⟩
 case' inl =>
  have g5 : (decide ¬ (l.length : Int) = 1) = false := decide_eq_false (by omega)
  have g7 : decide ((l.length : Int) = 1) = true := decide_eq_true (by omega)
  simp only [go_sem, hA, g5, undef, encS_length]
 case' inr =>
  have g5 : (decide ¬ (l.length : Int) = 1) = true := decide_eq_true (by omega)
  have g6 : (decide ¬ (l.length : Int) = 3) = false := decide_eq_false (by omega)
  have g7 : decide ((l.length : Int) = 1) = false := decide_eq_false (by omega)
  simp only [go_sem, hA, g5, g6, encS_length]
 all_goals
  refine satC_loop [0, 13, 14, 15] [] [] (fun y σ => ∃ q : Nat, q ≤ l.length ∧ y = l.length - q ∧ (l.take q).any (badName l) = false ∧ σ = dnSt l q) l.length ⟨0, by omega, by omega, rfl, by simp only [go_sem, dnSt]⟩ ?_
  rintro y σ ⟨q, hq, rfl, hf, rfl⟩
  refine goC 400 ?_
  by_cases hlt : q < l.length
  ·have k1 : decide ((q : Int) < (l.length : Int)) = true := decide_eq_true (by omega)
   have hc := sName_c l[q]
   simp only [go_sem, hA, dnSt, encS_length, k1, Int.toNat_natCast, encS_at l q hlt]
   refine ⟨⟨by omega, by omega⟩, ?_⟩
   have hbad : badName l l[q] = true → namesX l = 6 := fun h => by
    rw [he, if_pos]
    rw [List.any_eq_true]
    exact ⟨_, List.getElem_mem hlt, h⟩
   have hgood : badName l l[q] = false → (l.take (q + 1)).any (badName l) = false := fun h => by
    rw [List.take_succ_eq_append_getElem hlt, List.any_append, hf]
    simp [h]
   have g7' : decide (l.length = 1) = decide ((l.length : Int) = 1) := decide_eq_decide.2 (by omega)
   obtain ⟨one, g8⟩ : ∃ one, decide ((l.length : Int) = 1) = one := ⟨_, rfl⟩
   rw [g8] at g7'
   cases hn : nameB l[q] with
   | true =>
    rw [hn] at hc
    have hb := hgood (by unfold badName; rw [hn]; rfl)
    refine goCall 300 hc rfl (by simp only [go_sem]) (by simp only [go_sem, hA]) ?_
    simp only [go_sem, hA, undef]
    exact ⟨by unfold inI64; omega, l.length - (q + 1), by omega, q + 1, by omega, rfl, hb, rfl⟩
   | false =>
    rw [hn] at hc
    refine goCall 300 hc rfl (by simp only [go_sem]) (by simp only [go_sem, hA]) ?_
    cases one with
    | true =>
     have hb := hbad (by unfold badName; rw [hn, g7']; rfl)
     simp only [go_sem, hA, encS_length, g8, hb, undef, Tryz.results114]
    | false =>
     by_cases hz : l[q] = ⟨#[]⟩
     ·have hb := hgood (by unfold badName; rw [hn, g7', hz]; rfl)
      have k2 : decide (¬ l[q] = ⟨#[]⟩) = false := decide_eq_false (fun h => h hz)
      simp only [go_sem, hA, encS_length, g8, k2]
      exact ⟨by unfold inI64; omega, l.length - (q + 1), by omega, q + 1, by omega, rfl, hb, rfl⟩
     ·have hb := hbad (by unfold badName; rw [hn, g7']; simp [hz])
      have k2 : decide (¬ l[q] = ⟨#[]⟩) = true := decide_eq_true hz
      simp only [go_sem, hA, encS_length, g8, k2, hb, Tryz.results114]
  ·have k1 : decide ((q : Int) < (l.length : Int)) = false := decide_eq_false (by omega)
   obtain rfl : q = l.length := by omega
   rw [List.take_length] at hf
   rw [hf] at he
   simp only [go_sem, hA, dnSt, k1, he, Tryz.results114]
def sdeclX (x : Dc) : Int :=
 if x.id < 0 ∨ 999999 < x.id then 2 else if x.kind < 1 ∨ 3 < x.kind then 9 else if ¬ namesX x.names = 0 then namesX x.names else
 if ¬ checkX x.body = 0 then checkX x.body else if kindsE 5 x.body then 9 else 0
set_option maxRecDepth 100000 in
set_option maxHeartbeats 8000000 in
theorem sdecl_c (x : Dc) (hb : nodesE x.body ≤ 524288) : Con Tryz.prog 58 [avD x] (.d (.raw (.int .i64 (sdeclX x)))) := by
 have cn := declNames_c x.names
 have cc := sCheckExpr_c x.body (by omega)
 have ck := sHasRef_c x.body (by omega)
 refine con_of Tryz.func58 rfl (by decide +kernel) rfl rfl (by simp [Tryz.ntmps58]) fun A hA => ?_
 rw [Tryz.ntmps58] at hA
 refine goC 400 ?_
 by_cases h1 : x.id < 0
 ·have g1 : decide (x.id < 0) = true := decide_eq_true h1
  have he : sdeclX x = 2 := by unfold sdeclX; rw [if_pos (.inl h1)]
  simp only [go_sem, hA, avD, g1, he, undef, Tryz.results58]
 have g1 : decide (x.id < 0) = false := decide_eq_false h1
 by_cases h2 : 999999 < x.id
 ·have g2 : decide (999999 < x.id) = true := decide_eq_true h2
  have he : sdeclX x = 2 := by unfold sdeclX; rw [if_pos (.inr h2)]
  simp only [go_sem, hA, avD, g1, g2, he, Tryz.results58]
 have g2 : decide (999999 < x.id) = false := decide_eq_false h2
 have hs0 : sdeclX x = if x.kind < 1 ∨ 3 < x.kind then 9 else if ¬ namesX x.names = 0 then namesX x.names else if ¬ checkX x.body = 0 then checkX x.body else if kindsE 5 x.body then 9 else 0 := by unfold sdeclX; rw [if_neg (by omega)]
 by_cases h3 : x.kind < 1 ∨ 3 < x.kind
 ·have g3 : (decide ¬ x.kind = 1) = true := decide_eq_true (by omega)
  have g4 : (decide ¬ x.kind = 2) = true := decide_eq_true (by omega)
  have g5 : (decide ¬ x.kind = 3) = true := decide_eq_true (by omega)
  rw [if_pos h3] at hs0
  simp only [go_sem, hA, avD, g1, g2, g3, g4, g5, hs0, Tryz.results58]
 rw [if_neg h3] at hs0
 have h4 : x.kind = 1 ∨ (¬ x.kind = 1 ∧ x.kind = 2) ∨ (¬ x.kind = 1 ∧ ¬ x.kind = 2 ∧ x.kind = 3) := by omega
 rcases h4 with h4 | ⟨h4, h4'⟩ | ⟨h4, h4', h4''⟩
 case' inl =>
  have g3 : (decide ¬ x.kind = 1) = false := decide_eq_false (by omega)
  simp only [go_sem, hA, avD, g1, g2, g3, undef]
 case' inr.inl =>
  have g3 : (decide ¬ x.kind = 1) = true := decide_eq_true (by omega)
  have g4 : (decide ¬ x.kind = 2) = false := decide_eq_false (by omega)
  simp only [go_sem, hA, avD, g1, g2, g3, g4, undef]
 case' inr.inr =>
  have g3 : (decide ¬ x.kind = 1) = true := decide_eq_true (by omega)
  have g4 : (decide ¬ x.kind = 2) = true := decide_eq_true (by omega)
  have g5 : (decide ¬ x.kind = 3) = false := decide_eq_false (by omega)
  simp only [go_sem, hA, avD, g1, g2, g3, g4, g5]
 all_goals
  refine goCall 300 cn rfl (by simp only [go_sem]) (by simp only [go_sem, hA]) ?_
  by_cases hn : namesX x.names = 0
  ·rw [if_neg (fun h => h hn)] at hs0
   have k1 : (decide ¬ namesX x.names = 0) = false := decide_eq_false (fun h => h hn)
   simp only [go_sem, hA, k1]
   refine goCall 300 cc rfl (by simp only [go_sem, avE_eq]) (by simp only [go_sem, hA]) ?_
   by_cases hc : checkX x.body = 0
   ·rw [if_neg (fun h => h hc)] at hs0
    have k2 : (decide ¬ checkX x.body = 0) = false := decide_eq_false (fun h => h hc)
    simp only [go_sem, hA, k2]
    refine goCall 300 ck rfl (by simp only [go_sem, avE_eq]) (by simp only [go_sem, hA]) ?_
    cases hk : kindsE 5 x.body with
    | true =>
     rw [hk, if_pos rfl] at hs0
     simp only [go_sem, hA, hs0, Tryz.results58]
    | false =>
     rw [hk, if_neg (by decide)] at hs0
     simp only [go_sem, hA, hs0, Tryz.results58]
   ·rw [if_pos hc] at hs0
    have k2 : (decide ¬ checkX x.body = 0) = true := decide_eq_true hc
    simp only [go_sem, hA, k2, hs0, Tryz.results58]
  ·rw [if_pos hn] at hs0
   have k1 : (decide ¬ namesX x.names = 0) = true := decide_eq_true hn
   simp only [go_sem, hA, k1, hs0, Tryz.results58]
end Go.Proofs.YtnnolijagpakiaaGreatDoor
namespace Go.Proofs.YtnnolijagpakiaaGreatDoor
open Go Go.RowKit
def firstN (f : Nat → Int) : Nat → Int
 | 0 => 0
 | n + 1 => if firstN f n = 0 then f n else firstN f n
theorem firstN_step {f : Nat → Int} {q : Nat} (h : firstN f q = 0) (h1 : f q = 0) : firstN f (q + 1) = 0 := by rw [firstN, if_pos h, h1]
theorem firstN_hit {f : Nat → Int} {q n : Nat} (h : firstN f q = 0) (hn : q < n) (h1 : ¬ f q = 0) : firstN f n = f q := by
 induction n with
 | zero => omega
 | succ n ih =>
  rw [firstN]
  by_cases e : q = n
  ·subst e; rw [if_pos h]
  ·have := ih (by omega)
   rw [this, if_neg h1]
structure Sr where
 uses : List ByteArray
 decls : List Dc
def encDs (l : List Dc) : List (List D) := l.map encD
def avS (x : Sr) : AV := .agg [.d (.sl (encS x.uses)), .d (.sl (encDs x.decls))]
theorem encDs_length (l : List Dc) : (encDs l).length = l.length := by simp [encDs]
theorem encDs_at (l : List Dc) (i : Nat) (h : i < l.length) : (encDs l).getD i [] = encD l[i] := by
 simp [encDs, List.getD_eq_getElem?_getD, h]
def useE (l : List ByteArray) (q : Nat) : Int := if labelL (atB l q).data.toList then (if 0 < q ∧ ltS (atB l (q - 1)) (atB l q) = false then 10 else 0) else 6
def noDc : Dc := ⟨0, 0, false, [], false, .mk 0 ⟨#[]⟩ ⟨#[]⟩ 0 0 []⟩
def atD (l : List Dc) (i : Nat) : Dc := l.getD i noDc
theorem atD_get (l : List Dc) (i : Nat) (h : i < l.length) : atD l i = l[i] := by simp [atD, List.getD_eq_getElem?_getD, h]
theorem atB_get (l : List ByteArray) (i : Nat) (h : i < l.length) : atB l i = l[i] := by simp [atB, List.getD_eq_getElem?_getD, h]
def oneOf (d : Dc) : Option ByteArray := if d.names.length = 1 then some (atB d.names 0) else none
def ones (l : List Dc) : List ByteArray := l.filterMap oneOf
def misplaced (l : List Dc) (q : Nat) : Bool := decide (0 < q) && decide (¬ (atD l q).id = 0) && (decide ((atD l (q - 1)).id = 0) || decide ((atD l q).id ≤ (atD l (q - 1)).id))
def declE (e : Dc → Int) (l : List Dc) (q : Nat) : Int :=
 if ¬ e (atD l q) = 0 then e (atD l q) else if misplaced l q then 10 else if (atD l q).names.length = 1 ∧ hasS (ones (l.take q)) (atB (atD l q).names 0) then 7 else 0
def srcX (e : Dc → Int) (x : Sr) : Int :=
 if 20 < x.uses.length then 4 else if ¬ firstN (useE x.uses) x.uses.length = 0 then firstN (useE x.uses) x.uses.length else if 100 < x.decls.length then 4 else firstN (declE e x.decls) x.decls.length
theorem ones_succ (l : List Dc) (q : Nat) (h : q < l.length) : ones (l.take (q + 1)) = ones (l.take q) ++ (if (atD l q).names.length = 1 then [atB (atD l q).names 0] else []) := by
 rw [List.take_succ_eq_append_getElem h, ones, List.filterMap_append, atD_get l q h]
 congr 1
 simp only [List.filterMap_cons, List.filterMap_nil, oneOf]
 split <;> rename_i h1 <;> split at h1 <;> simp_all
theorem keys_snoc (a : List ByteArray) (n : ByteArray) : keysS (a ++ [n]) = keysS a ++ [.string n] := by simp [keysS]
theorem trues_snoc (a : List ByteArray) (n : ByteArray) : truesS (a ++ [n]) = truesS a ++ [.d (.raw (.bool true))] := by
 simp only [truesS, List.length_append, List.length_cons, List.length_nil, Nat.zero_add, List.replicate_succ']
theorem find_none {fs : List ByteArray} {s : ByteArray} (h : hasS fs s = false) : findIx (.string s) (keysS fs) = none := by
 have := findIx_keys s fs
 rw [h] at this
 simpa using this
theorem find_some {fs : List ByteArray} {s : ByteArray} (h : hasS fs s = true) : ∃ j, findIx (.string s) (keysS fs) = some j ∧ (truesS fs)[j]? = some (.d (.raw (.bool true))) := by
 have h1 := findIx_keys s fs
 rw [h] at h1
 obtain ⟨j, hj⟩ := Option.isSome_iff_exists.1 h1
 refine ⟨j, hj, ?_⟩
 have := findIx_lt s fs j hj
 simp [truesS, this]
abbrev cs1St (x : Sr) (q : Nat) : St := ⟨[(1, .box 0 0), (14, .d (.sl (encS x.uses))), (15, .d (.raw (.int .i64 x.uses.length))), (16, .d (.raw (.int .i64 q)))], [(0, some (.cell 26 [.d (.sl (encS x.uses)), .d (.sl (encDs x.decls))]))], []⟩
abbrev cs2St (x : Sr) (q : Nat) : St := ⟨[(1, .box 0 0), (5, .mp 13000), (43, .d (.sl (encDs x.decls))), (44, .d (.raw (.int .i64 x.decls.length))), (45, .d (.raw (.int .i64 q)))], [(0, some (.cell 26 [.d (.sl (encS x.uses)), .d (.sl (encDs x.decls))])), (13000, some (.map none (keysS (ones (x.decls.take q))) (truesS (ones (x.decls.take q)))))], []⟩
set_option maxRecDepth 100000 in
set_option maxHeartbeats 16000000 in
theorem ssource_c (x : Sr) (hb : ∀ d ∈ x.decls, nodesE d.body ≤ 524288) : Con Tryz.prog 26 [avS x] (.d (.raw (.int .i64 (srcX sdeclX x)))) := by
 refine con_of Tryz.func26 rfl (by decide +kernel) rfl rfl (by simp [Tryz.ntmps26]) fun A hA => ?_
 rw [Tryz.ntmps26] at hA
 refine goC 400 ?_
 by_cases h1 : 20 < x.uses.length
 ·have g1 : decide ((20 : Int) < (x.uses.length : Int)) = true := decide_eq_true (by omega)
  have he : srcX sdeclX x = 4 := by unfold srcX; rw [if_pos h1]
  simp only [go_sem, hA, avS, encS_length, g1, he, Tryz.results26]
 have g1 : decide ((20 : Int) < (x.uses.length : Int)) = false := decide_eq_false (by omega)
 have hs0 : srcX sdeclX x = if ¬ firstN (useE x.uses) x.uses.length = 0 then firstN (useE x.uses) x.uses.length else if 100 < x.decls.length then 4 else firstN (declE sdeclX x.decls) x.decls.length := by unfold srcX; rw [if_neg h1]
 simp only [go_sem, hA, avS, encS_length, g1]
 refine satC_loop [1, 14, 15, 16] [0] [] (fun y σ => ∃ q : Nat, q ≤ x.uses.length ∧ y = x.uses.length - q ∧ firstN (useE x.uses) q = 0 ∧ σ = cs1St x q) x.uses.length ⟨0, by omega, by omega, rfl, by simp only [go_sem, cs1St]⟩ ?_
 rintro y σ ⟨q, hq, rfl, hf, rfl⟩
 refine goC 400 ?_
 by_cases hlt : q < x.uses.length
 ·have k1 : decide ((q : Int) < (x.uses.length : Int)) = true := decide_eq_true (by omega)
  have hc := sLabel_c x.uses[q]
  have hat := atB_get x.uses q hlt
  have hhit : ∀ e : Int, ¬ e = 0 → useE x.uses q = e → srcX sdeclX x = e := fun e h0 h => by
   have h2 := firstN_hit (n := x.uses.length) hf hlt (by rw [h]; exact h0)
   rw [hs0, h2, h, if_pos h0]
  simp only [go_sem, hA, cs1St, encS_length, k1, Int.toNat_natCast, encS_at x.uses q hlt]
  refine ⟨⟨by omega, by omega⟩, ?_⟩
  refine goCall 300 hc rfl (by simp only [go_sem]) (by simp only [go_sem, hA]) ?_
  cases hl : labelL x.uses[q].data.toList with
  | false =>
   have hr := hhit 6 (by decide) (by unfold useE; rw [hat, hl]; rfl)
   simp only [go_sem, hA, hr, Tryz.results26]
  | true =>
   have hu : useE x.uses q = if 0 < q ∧ ltS (atB x.uses (q - 1)) (atB x.uses q) = false then 10 else 0 := by unfold useE; rw [hat, hl]; rfl
   by_cases hq0 : 0 < q
   ·have k2 : decide ((0 : Int) < (q : Int)) = true := decide_eq_true (by omega)
    have hq1 : ((q : Int) - 1).toNat = q - 1 := by omega
    have hat1 := atB_get x.uses (q - 1) (by omega)
    have hin : inI64 ((q : Int) - 1) := by unfold inI64; omega
    have hw : IntKind.i64.wrap ((q : Int) - 1) = (q : Int) - 1 := wrapI64 hin
    cases hls : ltS x.uses[q - 1] x.uses[q] with
    | false =>
     have hls' : Op.bytesLess x.uses[q - 1].data.toList x.uses[q].data.toList = false := hls
     have hr := hhit 10 (by decide) (by rw [hu, hat, hat1, if_pos ⟨hq0, hls⟩])
     simp only [go_sem, hA, k2, encS_length, hq1, encS_at x.uses (q - 1) (by omega), hls', hr, Tryz.results26]
     exact ⟨hin, by omega, by omega⟩
    | true =>
     have hls' : Op.bytesLess x.uses[q - 1].data.toList x.uses[q].data.toList = true := hls
     have hz := firstN_step hf (by rw [hu, hat, hat1, hls, if_neg (by simp)])
     simp only [go_sem, hA, k2, encS_length, hq1, encS_at x.uses (q - 1) (by omega), hls']
     exact ⟨hin, ⟨by omega, by omega⟩, by unfold inI64; omega, x.uses.length - (q + 1), by omega, q + 1, by omega, rfl, hz, rfl⟩
   ·have k2 : decide ((0 : Int) < (q : Int)) = false := decide_eq_false (by omega)
    have hz := firstN_step hf (by rw [hu, if_neg (fun h => hq0 h.1)])
    simp only [go_sem, hA, k2, undef]
    exact ⟨by unfold inI64; omega, x.uses.length - (q + 1), by omega, q + 1, by omega, rfl, hz, rfl⟩
 have k1 : decide ((q : Int) < (x.uses.length : Int)) = false := decide_eq_false (by omega)
 obtain rfl : q = x.uses.length := by omega
 rw [hf, if_neg (fun h => h rfl)] at hs0
 by_cases h2 : 100 < x.decls.length
 ·have g2 : decide ((100 : Int) < (x.decls.length : Int)) = true := decide_eq_true (by omega)
  rw [if_pos h2] at hs0
  simp only [go_sem, hA, cs1St, encDs_length, k1, g2, hs0, Tryz.results26]
 have g2 : decide ((100 : Int) < (x.decls.length : Int)) = false := decide_eq_false (by omega)
 rw [if_neg h2] at hs0
 simp only [go_sem, hA, cs1St, encDs_length, k1, g2]
 refine satC_loop [1, 5, 43, 44, 45] [0, 13000] [] (fun y σ => ∃ q : Nat, q ≤ x.decls.length ∧ y = x.decls.length - q ∧ firstN (declE sdeclX x.decls) q = 0 ∧ σ = cs2St x q) x.decls.length ⟨0, by omega, by omega, rfl, by simp only [go_sem, cs2St]; rfl⟩ ?_
 rintro y σ ⟨q, hq, rfl, hf2, rfl⟩
 refine goC 400 ?_
 by_cases hlt : q < x.decls.length
 case neg =>
  have k1 : decide ((q : Int) < (x.decls.length : Int)) = false := decide_eq_false (by omega)
  obtain rfl : q = x.decls.length := by omega
  rw [hf2] at hs0
  simp only [go_sem, hA, cs2St, k1, hs0, Tryz.results26]
 have k1 : decide ((q : Int) < (x.decls.length : Int)) = true := decide_eq_true (by omega)
 have hat := atD_get x.decls q hlt
 have hlen : x.decls.length ≤ 100 := by omega
 obtain ⟨d, hd⟩ : ∃ d, x.decls[q] = d := ⟨_, rfl⟩
 rw [hd] at hat
 have hc := sdecl_c d (hb d (by rw [← hd]; exact List.getElem_mem hlt))
 have hhit : ∀ e : Int, ¬ e = 0 → declE sdeclX x.decls q = e → srcX sdeclX x = e := fun e h0 h => by
  have h2 := firstN_hit (n := x.decls.length) hf2 hlt (by rw [h]; exact h0)
  rw [hs0, h2, h]
 simp only [go_sem, hA, cs2St, encDs_length, k1, Int.toNat_natCast, encDs_at x.decls q hlt, hd, encD, mentL_rep]
 refine ⟨⟨by omega, by omega⟩, ?_⟩
 refine goCall 300 hc rfl (by simp only [go_sem, avD]) (by simp only [go_sem, hA]) ?_
 by_cases he : sdeclX d = 0
 case neg =>
  have k2 : (decide ¬ sdeclX d = 0) = true := decide_eq_true he
  have hr := hhit (sdeclX d) he (by unfold declE; rw [hat, if_pos he])
  simp only [go_sem, hA, k2, hr, Tryz.results26]
 have k2 : (decide ¬ sdeclX d = 0) = false := decide_eq_false (fun h => h he)
 have hde : declE sdeclX x.decls q = if misplaced x.decls q then 10 else if d.names.length = 1 ∧ hasS (ones (x.decls.take q)) (atB d.names 0) then 7 else 0 := by unfold declE; rw [hat, if_neg (fun h => h he)]
 have hq1 : ((q : Int) - 1).toNat = q - 1 := by omega
 have hin : inI64 ((q : Int) - 1) := by unfold inI64; omega
 have hw : IntKind.i64.wrap ((q : Int) - 1) = (q : Int) - 1 := wrapI64 hin
 cases hm : misplaced x.decls q with
 | true =>
  have hm' := hm
  simp only [misplaced, hat, Bool.and_eq_true, Bool.or_eq_true, decide_eq_true_eq] at hm'
  obtain ⟨⟨hq0, hid⟩, hor⟩ := hm'
  have hr := hhit 10 (by decide) (by rw [hde, hm, if_pos rfl])
  have k3 : (decide ¬ d.id = 0) = true := decide_eq_true hid
  have k4 : decide ((0 : Int) < (q : Int)) = true := decide_eq_true (by omega)
  have hat1 := atD_get x.decls (q - 1) (by omega)
  rw [hat1] at hor
  by_cases hp : x.decls[q - 1].id = 0
  ·have k5 : decide (x.decls[q - 1].id = 0) = true := decide_eq_true hp
   simp only [go_sem, hA, k2, k3, k4, encDs_length, hq1, encDs_at x.decls (q - 1) (by omega), encD, k5, undef, mixed, hr, Tryz.results26]
   exact ⟨hin, ⟨by omega, by omega⟩, by show chk _ _ _ = true; kernel_rfl⟩
  ·have k5 : decide (x.decls[q - 1].id = 0) = false := decide_eq_false hp
   have k6 : decide (d.id ≤ x.decls[q - 1].id) = true := decide_eq_true (by rcases hor with h | h; exact absurd h hp; exact h)
   simp only [go_sem, hA, k2, k3, k4, encDs_length, hq1, encDs_at x.decls (q - 1) (by omega), encD, k5, k6, mixed, hr, Tryz.results26]
   exact ⟨hin, ⟨by omega, by omega⟩, hin, ⟨by omega, by omega⟩, by show chk _ _ _ = true; kernel_rfl⟩
 | false =>
  rw [hm, if_neg (by decide)] at hde
  have hm' : d.id = 0 ∨ (¬ d.id = 0 ∧ ¬ 0 < q) ∨ (¬ d.id = 0 ∧ 0 < q ∧ ¬ (atD x.decls (q - 1)).id = 0 ∧ ¬ d.id ≤ (atD x.decls (q - 1)).id) := by
   by_cases e1 : d.id = 0
   ·exact .inl e1
   by_cases e2 : 0 < q
   ·refine .inr (.inr ⟨e1, e2, ?_⟩)
    simp only [misplaced, hat, decide_eq_true e2, decide_eq_true e1, Bool.true_and, Bool.or_eq_false_iff, decide_eq_false_iff_not] at hm
    exact hm
   ·exact .inr (.inl ⟨e1, e2⟩)
  rcases hm' with e1 | ⟨e1, e2⟩ | ⟨e1, e2, e3, e4⟩
  case' inl =>
   have k3 : (decide ¬ d.id = 0) = false := decide_eq_false (fun h => h e1)
   simp only [go_sem, hA, k2, k3, undef, mixed, encS_length]
  case' inr.inl =>
   have k3 : (decide ¬ d.id = 0) = true := decide_eq_true e1
   have k4 : decide ((0 : Int) < (q : Int)) = false := decide_eq_false (by omega)
   simp only [go_sem, hA, k2, k3, k4, undef, mixed, encS_length]
  case' inr.inr =>
   have k3 : (decide ¬ d.id = 0) = true := decide_eq_true e1
   have k4 : decide ((0 : Int) < (q : Int)) = true := decide_eq_true (by omega)
   have hat1 := atD_get x.decls (q - 1) (by omega)
   rw [hat1] at e3 e4
   have k5 : decide (x.decls[q - 1].id = 0) = false := decide_eq_false e3
   have k6 : decide (d.id ≤ x.decls[q - 1].id) = false := decide_eq_false e4
   simp only [go_sem, hA, k2, k3, k4, encDs_length, hq1, encDs_at x.decls (q - 1) (by omega), encD, k5, k6, mixed, encS_length]
   refine ⟨hin, ⟨by omega, by omega⟩, hin, ⟨by omega, by omega⟩, ?_⟩
  all_goals
   refine ⟨by show chk _ _ _ = true; kernel_rfl, ?_⟩
   by_cases hl : d.names.length = 1
   ·have k7 : decide ((d.names.length : Int) = 1) = true := decide_eq_true (by omega)
    cases hh : hasS (ones (x.decls.take q)) (atB d.names 0) with
    | true =>
     obtain ⟨j, hj1, hj2⟩ := find_some hh
     have hr := hhit 7 (by decide) (by rw [hde, if_pos ⟨hl, hh⟩])
     simp only [go_sem, hA, k7, encS_length, encS_atB d.names 0 (by omega), hj1, hj2, hr, Tryz.results26]
     exact ⟨by omega, keysS_fit _⟩
    | false =>
     have hj := find_none hh
     have hz := firstN_step hf2 (by rw [hde, if_neg (fun h => by rw [hh] at h; exact Bool.noConfusion h.2)])
     have hone := ones_succ x.decls q hlt
     rw [hat, if_pos hl] at hone
     simp only [go_sem, hA, k7, encS_length, encS_atB d.names 0 (by omega), hj, mentL_rep]
     refine ⟨by omega, keysS_fit _, by omega, keysS_fit _, by unfold inI64; omega, x.decls.length - (q + 1), by omega, q + 1, by omega, rfl, hz, ?_⟩
     rw [hone, keys_snoc, trues_snoc]
     rfl
   ·have k7 : decide ((d.names.length : Int) = 1) = false := decide_eq_false (by omega)
    have hz := firstN_step hf2 (by rw [hde, if_neg (fun h => hl h.1)])
    have hone := ones_succ x.decls q hlt
    rw [hat, if_neg hl, List.append_nil] at hone
    simp only [go_sem, hA, k7]
    exact ⟨by unfold inI64; omega, x.decls.length - (q + 1), by omega, q + 1, by omega, rfl, hz, by rw [hone]; rfl⟩
end Go.Proofs.YtnnolijagpakiaaGreatDoor
namespace Go.Proofs.YtnnolijagpakiaaGreatDoor
open Go Go.RowKit
section
variable {P : Program} {A : Base P} {σ : St} {g : Gh} {a : Act} {w : World}
theorem opOk_buildArr {o : Oper} {t e : TypeId} {n : Nat} {ps : Array (Nat × Operand)} {z : Value} {cs : List AV} (ho : o.op = .build t ps) (ht : P.underlying t = some (.array n e)) (hz : zeroOf P t = some z) (h0 : P.cellsOf e ≠ 0)
  (h : fillA (fun i => some (i * P.cellsOf e, P.cellsOf e)) (z.cells.toList.map ofCell) (ps.toList.map fun x => (x.1, σ.eval x.2)) = some cs) : OpOk P A o σ σ (.agg cs) := by
 refine opOk_run fun g a w hk => ?_
 obtain ⟨i, hi, hzi⟩ : ∃ i, P.info? t = some i ∧ i.zero = some z := by
  unfold zeroOf at hz
  cases hi : P.info? t with
  | none => simp [hi] at hz
  | some i => exact ⟨i, rfl, by simpa [hi] using hz⟩
 obtain ⟨arr', f1, f2, f3⟩ := fillA_ok (w := w) (g := g) (tk := σ.tk) _ (ps.toList.map fun x => (x.1, a.eval x.2)) _ z.cells _ (by simp) (fun i hi hv => by
  simp only [List.getElem_map]
  exact ⟨trivial, hk.eval _⟩) (by simp) (fun i hi hv => by
  rw [List.getElem_map]
  exact has_ofCell _ _ _ _) h
 refine ⟨g, _, w, ?_, hk, .agg cs arr'.toList (by simpa using f2) (fun i hi hv => f3 i hi (by simpa using hv))⟩
 have hps : (ps.map fun (x : Nat × Operand) => (x.1, a.eval x.2)).toList = ps.toList.map fun x => (x.1, a.eval x.2) := by simp
 simp only [execOp, ho, Instr.build, Sem.run_bind, zeroValue, typeInfo, run_program, hi, hzi, Sem.run_pure, Result.andThen_ok, run_underlying ht, run_sizeOf h0, hps, f1]
theorem opOk_indexArr {o : Oper} {t e : TypeId} {n : Nat} {p q : Operand} {k : IntKind} {i : Int} {cs : List AV} {x : AV} (ho : o.op = .index t p q) (ht : P.underlying t = some (.array n e)) (hp : σ.eval p = .agg cs) (hq : σ.eval q = .d (.raw (.int k i))) (h0 : P.cellsOf e = 1) (ha : aggOf P e = some false) (h1 : 0 ≤ i) (h2 : i < n)
  (hx : cs[i.toNat]? = some x) : OpOk P A o σ σ x :=
 opOk_pure fun g a w hk => by
  have e1 := hk.eval p
  have e2 := hk.eval q
  rw [hp] at e1
  rw [hq] at e2
  obtain ⟨vs, hv, hl, hh⟩ := e1.agg_eq
  obtain ⟨h3, rfl⟩ := List.getElem?_eq_some_iff.1 hx
  have hlt : i.toNat < vs.length := by omega
  obtain ⟨h4, j, hj⟩ := run_isAgg (P := P) ha w
  refine ⟨vs[i.toNat], ?_, hh _ h3 hlt⟩
  have hso := run_sizeOf (P := P) (t := e) (by rw [h0]; decide) w
  rw [h0] at hso
  simp only [execOp, ho, hv, e2.raw_eq, Instr.index, asIntOf, Sem.run_bind, Sem.run_pure, run_underlying ht, Result.andThen_ok, h1, h2, and_self, if_pos, hso, Nat.mul_one, part, h4]
  simp [hlt]
theorem goMid (n : Nat) (ts bs ks : List Nat) (I : St → Prop) {c rest : Code} {s : List Itm} {Q : Exit → St → Prop} (h1 : go P A n (.code c) (.inv (fun σ' => I (σ'.keep ts bs ks)) :: s) σ Q) (h2 : ∀ σ', I σ' → SatC P A rest σ' (stk P A s Q)) : SatC P A (.seq c rest) σ (stk P A s Q) := by
 refine satC_seq ((go_ok n _ _ _ _ h1).mono fun e σ' hq => ?_)
 cases e with
 | normal => exact satC_keep ts bs ks (h2 _ hq)
 | _ => exact hq
end
variable {A : Base Tryz.prog} {σ : St} {g : Gh} {a : Act} {w : World}
theorem opOk_clone {o : Oper} {c : Call} {p m : Operand} {me : Nat} {l : List ByteArray} (ho : o.op = .call c) (hp : c.callee = .value p) (hf : σ.eval p = .fn 110 []) (hargs : c.args.toList = [m]) (hm : σ.eval m = .d (.sl (encS l))) (h0 : 0 < l.length) (hlen : l.length * 16 ≤ 140737488355328) (hfree : σ.free A me) :
  OpOk Tryz.prog A o σ (σ.setBlk me (some (.row 1 9 (encS l)))) (.own me l.length) := by
 intro g a w hk K Q hK
 have hr := run_call2 hk ho hp hf ⟨_, Tryz.func110, by decide +kernel, rfl⟩
 have hme := hk.eval m
 rw [hm] at hme
 refine wpE_call hr ?_
 rw [hargs]
 simp only [List.map_cons, List.map_nil]
 rcases reads_strs hme.sl with ⟨e, _⟩ | ⟨_, b, off, cap, hv, hcap, _, hc⟩
 ·rw [e] at h0; simp at h0
 rw [hv]
 refine (Tryz.slices_Clone_string b off l.length cap l w (Nat.le_refl _) hlen hc).mono ?_
 rintro e w' ⟨v', rfl, hown, hne, hbel⟩
 obtain ⟨hk1, _⟩ := hk.grown hbel g.F (fun _ _ h => h) (fun _ _ h => .inl h)
 rcases hown.2 with ⟨e, _⟩ | ⟨gb, cap2, cur, hv2, hgB, hgh, hcap2, _, hsz, htake⟩
 ·exact absurd e hne
 have hb2 : BlkAt { g with F := g.F } σ.tk w' gb (.row 1 9 (encS l)) := ⟨cur.toList, by rw [Array.toArray_toList]; exact hgh, fun i hi => encS_row _ _ (List.getElem_mem hi), fun i hi j hj => by
  have hil : i < l.length := by rw [encS_length] at hi; exact hi
  have hrow : (encS l)[i] = [.raw (.string l[i])] := by simp [encS]
  have hj0 : j = 0 := by rw [hrow] at hj; simpa using hj
  subst hj0
  refine ⟨.string l[i], ?_, by simp only [hrow, List.getElem_cons_zero]; exact .raw _⟩
  have h1 : (cur.toList.take (l.length * 1))[i]? = some (.string l[i]) := by rw [htake]; simp [hil]
  rw [List.getElem?_take_of_lt (by omega)] at h1
  rw [Nat.mul_one, Nat.add_zero]
  exact h1⟩
 have hB := hk.hB
 have hk2 := hk1.addBlk hfree (.inl (by omega)) hb2 rfl (fun o hf => by have := hk.Fb gb o hf; omega) (fun r' k' hr' e => by have := (hk.blk r' k' hr').2.lt; have e : g.m r' = gb := e; omega) (fun r' k' hr' e => by
  have := (hk.tok r' k' hr').lt e
  omega)
 refine hK _ _ _ hk2 ?_
 rw [hv2]
 have := Has.own (g := { ({ g with F := g.F } : Gh) with m := updN g.m me gb }) (tk := (σ.setBlk me (some (.row 1 9 (encS l)))).tk) (w := w') me l.length cap2 hcap2
 simp only [updN_same] at this
 exact this
theorem goClone (n : Nat) {all : List Oper} {f : Option FuncId} {o : Oper} {rest : List Oper} {i base : Nat} {st : List Itm} {Q : Exit → St → Prop} {c : Call} {p m : Operand} {me : Nat} {l : List ByteArray} (ho : o.op = .call c) (hp : c.callee = .value p) (hf : σ.eval p = .fn 110 []) (hargs : c.args.toList = [m]) (hm : σ.eval m = .d (.sl (encS l))) (h0 : 0 < l.length) (hlen : l.length * 16 ≤ 140737488355328) (hfree : σ.free A me) (hd : dstOk A.N o = true)
  (hr : go Tryz.prog A n (.ops all rest (i + 1) base) st ((σ.setBlk me (some (.row 1 9 (encS l)))).put o.dst (.own me l.length)) Q) : SemM Tryz.prog A (.exe f all o rest i base) st σ Q :=
 satE_op (opOk_clone ho hp hf hargs hm h0 hlen hfree) hd (go_ok n _ _ _ _ hr)
end Go.Proofs.YtnnolijagpakiaaGreatDoor
namespace Go.Proofs.YtnnolijagpakiaaGreatDoor
def nextL (l : List UInt8) : Int × Nat :=
 if letterB (l.head?.getD 0) then (if hasSlash (l.take (runL innerB l)) then 2 else 1, runL innerB l)
 else if digitB (l.head?.getD 0) || ((l.head?.getD 0).toNat == 45 && decide (1 < l.length) && digitB (l.tail.head?.getD 0)) then (3, 1 + runL innerB l.tail)
 else (4, signL l)
def okNext (l : List UInt8) : Bool := checkL (nextL l).1 (l.take (nextL l).2) 0 == 0
theorem prefix_two {l : List UInt8} {a b : UInt8} (h : Lib.hasPrefix l [a, b] = true) : 2 ≤ l.length := by
 unfold Lib.hasPrefix at h
 have := (List.isPrefixOf_iff_prefix.1 h).length_le
 simpa using this
theorem signL_le (l : List UInt8) : signL l ≤ l.length := by
 unfold signL
 split
 ·rename_i h
  simp only [Bool.or_eq_true] at h
  rcases h with h | h | h <;> exact prefix_two h
 ·cases l with
  | nil => simp
  | cons c r => simp only [List.length_cons]; split <;> omega
end Go.Proofs.YtnnolijagpakiaaGreatDoor
namespace Go.Proofs.YtnnolijagpakiaaGreatDoor
structure LTok where
 kind : Int
 text : List UInt8
 pos : Int
def advL (r : List UInt8) : Nat := (nextL r).2 + skipL (r.drop (nextL r).2)
def tokL (r : List UInt8) (p : Nat) : LTok := ⟨(nextL r).1, r.take (nextL r).2, p⟩
def scanT : Nat → List UInt8 → Nat → List LTok → List LTok × Option Nat
 | 0, _, _, acc => (acc, none)
 | f + 1, r, p, acc => if r.isEmpty then (acc, none) else if okNext r then scanT f (r.drop (advL r)) (p + advL r) (acc ++ [tokL r p]) else ([], some p)
def scanAll (l : List UInt8) : List LTok × Option Nat := scanT (l.length + 1) (l.drop (skipL l)) (skipL l) []
theorem nextL_le (l : List UInt8) (h : 0 < l.length) : (nextL l).2 ≤ l.length := by
 unfold nextL
 have h1 := runL_le innerB l
 have h2 := runL_le innerB l.tail
 have h3 := signL_le l
 simp only [List.length_tail] at h2
 repeat' split
 all_goals first | exact h1 | exact h3 | (simp only []; omega)
theorem textL_nil (k : Int) : textL k [] = false := by
 unfold textL; repeat' split
 all_goals rfl
theorem checkL_nil (k : Int) : (checkL k [] 0 == 0) = false := by
 unfold checkL; rw [textL_nil]; split <;> rfl
theorem okNext_pos {l : List UInt8} (h : okNext l = true) : 0 < (nextL l).2 := by
 rcases Nat.eq_zero_or_pos (nextL l).2 with h0 | h0
 ·unfold okNext at h; rw [h0, List.take_zero, checkL_nil] at h; cases h
 ·exact h0
theorem advL_le (r : List UInt8) (h : 0 < r.length) : advL r ≤ r.length := by
 have h1 := nextL_le r h
 have h2 := skipL_le (r.drop (nextL r).2)
 simp only [List.length_drop] at h2
 unfold advL; omega
theorem scanT_end {f : Nat} {r : List UInt8} {p : Nat} {acc : List LTok} (h : r.length = 0) : scanT f r p acc = (acc, none) := by
 obtain rfl := List.eq_nil_of_length_eq_zero h
 cases f <;> rfl
theorem scanT_step {f : Nat} {r : List UInt8} {p : Nat} {acc : List LTok} (h : 0 < r.length) (ho : okNext r = true) : scanT (f + 1) r p acc = scanT f (r.drop (advL r)) (p + advL r) (acc ++ [tokL r p]) := by
 rw [scanT, if_neg (by cases r <;> simp_all), if_pos ho]
theorem scanT_err {f : Nat} {r : List UInt8} {p : Nat} {acc : List LTok} (h : 0 < r.length) (ho : okNext r = false) : scanT (f + 1) r p acc = ([], some p) := by
 rw [scanT, if_neg (by cases r <;> simp_all), if_neg (by simp [ho])]
end Go.Proofs.YtnnolijagpakiaaGreatDoor
namespace Go.Proofs.YtnnolijagpakiaaGreatDoor
theorem signL_def (l : List UInt8) : signL l = if Lib.hasPrefix l [45, 62] || (Lib.hasPrefix l [58, 58] || Lib.hasPrefix l [124, 124]) then 2 else (match l.head? with | none => 0 | some c => if decide (0 ≤ Lib.indexByte onesL c) then 1 else 0) := by
 unfold signL
 cases l <;> rfl
theorem digit_inner {c : UInt8} (h : digitB c = true) : innerB c = true := by
 unfold digitB at h; simp [innerB, isRunning, h]
end Go.Proofs.YtnnolijagpakiaaGreatDoor
namespace Go.Proofs.YtnnolijagpakiaaGreatDoor
def Delim (r : List UInt8) : Prop := r = [] ∨ ∃ c q, r = c :: q ∧ (c = 32 ∨ c = 10)
def TokOK (t : LTok) : Prop := 1 ≤ t.kind ∧ t.kind ≤ 4 ∧ textL t.kind t.text = true
theorem runL_all {p : UInt8 → Bool} : ∀ {l r : List UInt8}, l.all p = true → (∀ c q, r = c :: q → p c = false) → runL p (l ++ r) = l.length
 | [], r, _, h => by
  cases r with
  | nil => rfl
  | cons c q => simp [runL, h c q rfl]
 | a :: l, r, ha, h => by
  simp only [List.all_cons, Bool.and_eq_true] at ha
  have ih := runL_all (l := l) (r := r) ha.2 h
  have e : runL p (a :: l ++ r) = runL p (l ++ r) + 1 := by simp [runL, ha.1]
  rw [e, ih]; rfl
theorem delim_inner {r : List UInt8} (h : Delim r) : ∀ c q, r = c :: q → innerB c = false := by
 intro c q e
 rcases h with h | ⟨d, q', h, hd⟩
 ·rw [h] at e; cases e
 ·rw [h] at e; injection e with e1 _; subst e1
  rcases hd with rfl | rfl <;> rfl
theorem alnum_inner {l : List UInt8} (h : l.all alnumB = true) : l.all innerB = true := by
 rw [List.all_eq_true] at *
 intro c hc
 have := h c hc
 unfold alnumB letterB digitB at this
 simp [innerB, isRunning]
 simp at this
 rcases this with h | h
 ·exact .inl (.inl h)
 ·exact .inl (.inr h)
theorem letter_alnum {c : UInt8} (h : letterB c = true) : alnumB c = true := by simp [alnumB, h]
theorem wordL_cons {m : Nat} {l : List UInt8} (h : wordL m l = true) : ∃ c q, l = c :: q ∧ letterB c = true ∧ l.all alnumB = true := by
 cases l with
 | nil => simp [wordL] at h
 | cons c q =>
  simp only [wordL, Bool.and_eq_true] at h
  exact ⟨c, q, rfl, h.1.2, by simp [letter_alnum h.1.2, h.2]⟩
theorem alnum_noSlash {l : List UInt8} (h : l.all alnumB = true) : hasSlash l = false := by
 unfold hasSlash
 have : Lib.indexByte l 47 = -1 := by
  induction l with
  | nil => rfl
  | cons c q ih =>
   simp only [List.all_cons, Bool.and_eq_true] at h
   have hc : (c == 47) = false := by
    cases hh : c == 47
    ·rfl
    ·have := eq_of_beq hh; subst this; have := h.1; simp [alnumB, letterB, digitB, isLetter, isDigit] at this
   rw [Lib.indexByte, hc, ih h.2]; rfl
 rw [this]; rfl
theorem parts_inner : ∀ l : List UInt8, (partsL l).all (wordL 20) = true → l.all innerB = true ∧ ∃ c q, l = c :: q ∧ letterB c = true
 | [], h => by simp [partsL, wordL] at h
 | c :: r, h => by
  by_cases hc : (c == 47) = true
  ·rw [partsL, if_pos hc] at h; simp [wordL] at h
  ·rw [partsL, if_neg hc] at h
   cases hp : partsL r with
   | nil => exact absurd hp (partsL_ne r)
   | cons p ps =>
    rw [hp] at h
    simp only [List.all_cons, Bool.and_eq_true] at h
    obtain ⟨c', q', e, hl, hall⟩ := wordL_cons h.1
    injection e with e1 e2
    subst e1
    refine ⟨?_, c, r, rfl, hl⟩
    simp only [List.all_cons] at hall
    have hci : innerB c = true := by
     have := alnum_inner (l := [c]) (by simp [letter_alnum hl])
     simpa using this
    rw [List.all_cons, hci, Bool.true_and]
    -- the rest: its first part goes on, or a slash follows
    clear hl
    have key : ∀ (r : List UInt8) (p : List UInt8) (ps : List (List UInt8)), partsL r = p :: ps → p.all alnumB = true → ps.all (wordL 20) = true → r.all innerB = true := by
     intro r
     induction r with
     | nil => intro _ _ _ _ _; rfl
     | cons d r ih =>
      intro p ps hp hpa hps
      by_cases hd : (d == 47) = true
      ·rw [partsL, if_pos hd] at hp
       injection hp with h1 h2
       subst h1
       have hdi : innerB d = true := by rw [eq_of_beq hd]; rfl
       rw [List.all_cons, hdi, Bool.true_and]
       cases hq : partsL r with
       | nil => exact absurd hq (partsL_ne r)
       | cons p' ps' =>
        rw [hq] at h2; subst h2
        simp only [List.all_cons, Bool.and_eq_true] at hps
        obtain ⟨_, _, _, _, ha⟩ := wordL_cons hps.1
        exact ih p' ps' hq ha hps.2
      ·rw [partsL, if_neg hd] at hp
       cases hq : partsL r with
       | nil => exact absurd hq (partsL_ne r)
       | cons p' ps' =>
        rw [hq] at hp
        injection hp with h1 h2
        subst h1 h2
        simp only [List.all_cons, Bool.and_eq_true] at hpa
        have hdi : innerB d = true := by
         have := alnum_inner (l := [d]) (by simp [hpa.1])
         simpa using this
        rw [List.all_cons, hdi, Bool.true_and]
        exact ih p' ps' hq hpa.2 hps
    exact key r p ps hp (by simp only [Bool.and_eq_true] at hall; exact hall.2) h.2
theorem letter_not_sep {c : UInt8} (h : letterB c = true) : c ≠ 32 ∧ c ≠ 10 ∧ c ≠ 35 := by
 refine ⟨?_, ?_, ?_⟩ <;> (rintro rfl; simp [letterB, isLetter] at h)
theorem digit_not_letter {c : UInt8} (h : digitB c = true) : letterB c = false := by
 simp [digitB, isDigit] at h; simp [letterB, isLetter]; omega
theorem numCore_all {l : List UInt8} (h : numCore l = true) : 0 < l.length ∧ l.all digitB = true := by
 simp only [numCore, Bool.and_eq_true, decide_eq_true_eq] at h
 exact ⟨by omega, h.2⟩
theorem digits_inner {l : List UInt8} (h : l.all digitB = true) : l.all innerB = true := by
 rw [List.all_eq_true] at *
 exact fun c hc => digit_inner (h c hc)
theorem next_of_word {l r : List UInt8} {m : Nat} (h : wordL m l = true) (hr : Delim r) : nextL (l ++ r) = (1, l.length) := by
 obtain ⟨c, q, e, hl, ha⟩ := wordL_cons h
 have hrun : runL innerB (l ++ r) = l.length := runL_all (alnum_inner ha) (delim_inner hr)
 unfold nextL
 rw [hrun, List.take_left']
 ·rw [if_pos (by rw [e]; exact hl), alnum_noSlash ha]; rfl
 ·rfl
theorem next_of_label {l r : List UInt8} (h : labelL l = true) (hs : hasSlash l = true) (hr : Delim r) : nextL (l ++ r) = (2, l.length) := by
 have hp : (partsL l).all (wordL 20) = true := by
  unfold labelL at h; rw [Bool.and_eq_true] at h; exact h.2
 obtain ⟨ha, c, q, e, hl⟩ := parts_inner l hp
 have hrun : runL innerB (l ++ r) = l.length := runL_all ha (delim_inner hr)
 unfold nextL
 rw [hrun, List.take_left']
 ·rw [if_pos (by rw [e]; exact hl), hs]; rfl
 ·rfl
theorem nextL_isNum {l : List UInt8} (h1 : letterB (l.head?.getD 0) = false) (h2 : (digitB (l.head?.getD 0) || ((l.head?.getD 0).toNat == 45 && decide (1 < l.length) && digitB (l.tail.head?.getD 0))) = true) : nextL l = (3, 1 + runL innerB l.tail) := by
 unfold nextL
 rw [if_neg (show ¬ letterB (l.head?.getD 0) = true by simp [h1]), if_pos h2]
theorem nextL_isSign {l : List UInt8} (h1 : letterB (l.head?.getD 0) = false) (h2 : (digitB (l.head?.getD 0) || ((l.head?.getD 0).toNat == 45 && decide (1 < l.length) && digitB (l.tail.head?.getD 0))) = false) : nextL l = (4, signL l) := by
 unfold nextL
 rw [if_neg (show ¬ letterB (l.head?.getD 0) = true by simp [h1]), if_neg (by rw [h2]; decide)]
theorem next_of_number {l r : List UInt8} (h : numberL l = true) (hr : Delim r) : nextL (l ++ r) = (3, l.length) := by
 unfold numberL at h
 by_cases hp : Lib.hasPrefix l [45] = true
 ·rw [if_pos hp, Bool.and_eq_true] at h
  cases l with
  | nil => simp [Lib.hasPrefix] at hp
  | cons c q =>
   obtain rfl : 45 = c := by simpa [Lib.hasPrefix] using hp
   simp only [List.tail_cons] at h
   obtain ⟨hq, hd⟩ := numCore_all h.1
   cases q with
   | nil => simp at hq
   | cons d q =>
    simp only [List.all_cons, Bool.and_eq_true] at hd
    have hrun : runL innerB ((d :: q) ++ r) = (d :: q).length := runL_all (digits_inner (by simp [hd.1, hd.2])) (delim_inner hr)
    rw [nextL_isNum rfl (by simp [hd.1])]
    rw [List.cons_append] at hrun
    simp only [List.cons_append, List.tail_cons]
    rw [hrun]; simp; omega
 ·rw [if_neg hp] at h
  obtain ⟨hq, hd⟩ := numCore_all h
  cases l with
  | nil => simp at hq
  | cons c q =>
   simp only [List.all_cons, Bool.and_eq_true] at hd
   have hrun : runL innerB (q ++ r) = q.length := runL_all (digits_inner hd.2) (delim_inner hr)
   rw [nextL_isNum (by simp [digit_not_letter hd.1]) (by simp [hd.1])]
   simp only [List.cons_append, List.tail_cons]
   rw [hrun]; simp; omega
theorem ones_cases {c : UInt8} (h : (0 : Int) ≤ Lib.indexByte onesL c) : c = 40 ∨ c = 41 ∨ c = 61 ∨ c = 43 ∨ c = 45 ∨ c = 42 ∨ c = 60 ∨ c = 124 ∨ c = 46 ∨ c = 59 ∨ c = 64 := by
 have key : ∀ l : List UInt8, (0 : Int) ≤ Lib.indexByte l c → c ∈ l := by
  intro l
  induction l with
  | nil => intro h; simp [Lib.indexByte] at h
  | cons b l ih =>
   intro h
   unfold Lib.indexByte at h
   by_cases hb : (b == c) = true
   ·rw [eq_of_beq hb]; simp
   ·rw [if_neg hb] at h
    by_cases hl : (Lib.indexByte l c == -1) = true
    ·rw [if_pos hl] at h; simp at h
    ·have := Lib.indexByte_ge l c
     have h2 : (0 : Int) ≤ Lib.indexByte l c := by simp at hl; omega
     exact List.mem_cons_of_mem _ (ih h2)
 have := key _ h
 simpa [onesL] using this
theorem sign_cases {l : List UInt8} (h0 : 0 < l.length) (h : signL l = l.length) : l = [45, 62] ∨ l = [58, 58] ∨ l = [124, 124] ∨ ∃ c, l = [c] ∧ (0 : Int) ≤ Lib.indexByte onesL c := by
 rw [signL_def] at h
 by_cases hp : (Lib.hasPrefix l [45, 62] || (Lib.hasPrefix l [58, 58] || Lib.hasPrefix l [124, 124])) = true
 ·rw [if_pos hp] at h
  have key : ∀ a b : UInt8, Lib.hasPrefix l [a, b] = true → l = [a, b] := fun a b hq => by
   unfold Lib.hasPrefix at hq
   rw [List.isPrefixOf_iff_prefix] at hq
   obtain ⟨t, ht⟩ := hq
   have := congrArg List.length ht
   simp at this
   have : t = [] := List.eq_nil_of_length_eq_zero (by omega)
   subst this; simpa using ht.symm
  simp only [Bool.or_eq_true] at hp
  rcases hp with hp | hp | hp
  ·exact .inl (key _ _ hp)
  ·exact .inr (.inl (key _ _ hp))
  ·exact .inr (.inr (.inl (key _ _ hp)))
 ·rw [if_neg hp] at h
  cases l with
  | nil => simp at h0
  | cons c q =>
   simp only [List.head?_cons] at h
   by_cases hc : decide ((0 : Int) ≤ Lib.indexByte onesL c) = true
   ·rw [if_pos hc] at h
    have : q = [] := List.eq_nil_of_length_eq_zero (by rw [List.length_cons] at h; omega)
    subst this
    exact .inr (.inr (.inr ⟨c, rfl, by simpa using hc⟩))
   ·rw [if_neg hc] at h; simp at h
theorem signL_two' {a b : UInt8} {r : List UInt8} (h : (a = 45 ∧ b = 62) ∨ (a = 58 ∧ b = 58) ∨ (a = 124 ∧ b = 124)) : signL (a :: b :: r) = 2 := by
 rw [signL_def, if_pos]
 rcases h with ⟨rfl, rfl⟩ | ⟨rfl, rfl⟩ | ⟨rfl, rfl⟩ <;> simp [Lib.hasPrefix]
theorem signL_one' {c : UInt8} {r : List UInt8} (h : (0 : Int) ≤ Lib.indexByte onesL c) (hr : Delim r) : signL (c :: r) = 1 := by
 rw [signL_def, if_neg, List.head?_cons]
 ·simp [h]
 ·rcases hr with rfl | ⟨d, q, rfl, hd⟩
  ·simp [Lib.hasPrefix]
  ·rcases hd with rfl | rfl <;> simp [Lib.hasPrefix]
theorem delim_head_digit {r : List UInt8} (h : Delim r) : digitB (r.head?.getD 0) = false := by
 rcases h with rfl | ⟨d, q, rfl, hd⟩
 ·rfl
 ·rcases hd with rfl | rfl <;> rfl
theorem next_of_sign {l r : List UInt8} (h0 : 0 < l.length) (h : signL l = l.length) (hr : Delim r) : nextL (l ++ r) = (4, l.length) := by
 have two : ∀ a b : UInt8, ((a = 45 ∧ b = 62) ∨ (a = 58 ∧ b = 58) ∨ (a = 124 ∧ b = 124)) → nextL ([a, b] ++ r) = (4, 2) := fun a b hab => by
  have hs := signL_two' (r := r) hab
  rw [nextL_isSign]
  ·rw [show [a, b] ++ r = a :: b :: r from rfl, hs]
  ·rcases hab with ⟨rfl, rfl⟩ | ⟨rfl, rfl⟩ | ⟨rfl, rfl⟩ <;> rfl
  ·rcases hab with ⟨rfl, rfl⟩ | ⟨rfl, rfl⟩ | ⟨rfl, rfl⟩ <;> simp [digitB, isDigit]
 rcases sign_cases h0 h with rfl | rfl | rfl | ⟨c, rfl, hc⟩
 ·exact two 45 62 (.inl ⟨rfl, rfl⟩)
 ·exact two 58 58 (.inr (.inl ⟨rfl, rfl⟩))
 ·exact two 124 124 (.inr (.inr ⟨rfl, rfl⟩))
 ·have hs := signL_one' hc hr
  have hd := delim_head_digit hr
  rw [nextL_isSign]
  ·rw [show [c] ++ r = c :: r from rfl, hs]; rfl
  ·rcases ones_cases hc with rfl | rfl | rfl | rfl | rfl | rfl | rfl | rfl | rfl | rfl | rfl <;> rfl
  ·simp only [List.cons_append, List.nil_append, List.head?_cons, Option.getD_some, List.tail_cons, hd]
   rcases ones_cases hc with rfl | rfl | rfl | rfl | rfl | rfl | rfl | rfl | rfl | rfl | rfl <;> simp [digitB, isDigit]
theorem next_of_tok {t : LTok} {r : List UInt8} (h : TokOK t) (hr : Delim r) : nextL (t.text ++ r) = (t.kind, t.text.length) := by
 obtain ⟨h1, h4, ht⟩ := h
 have : t.kind = 1 ∨ t.kind = 2 ∨ t.kind = 3 ∨ t.kind = 4 := by omega
 rcases this with e | e | e | e
 ·rw [e] at ht ⊢; exact next_of_word (textL_1 _ ▸ ht) hr
 ·rw [e, textL_2, Bool.and_eq_true] at ht; rw [e]; exact next_of_label ht.1 ht.2 hr
 ·rw [e] at ht ⊢; exact next_of_number (textL_3 _ ▸ ht) hr
 ·rw [e, textL_4, Bool.and_eq_true] at ht; rw [e]; exact next_of_sign (by simpa using ht.1) (by simpa using ht.2) hr
theorem ok_of_tok {t : LTok} {r : List UInt8} (h : TokOK t) (hr : Delim r) : okNext (t.text ++ r) = true := by
 unfold okNext
 rw [next_of_tok h hr, List.take_left' rfl, checkL_ok h.1 h.2.1 h.2.2 (by omega)]; rfl
theorem tok_pos {t : LTok} (h : TokOK t) : 0 < t.text.length := by
 rcases Nat.eq_zero_or_pos t.text.length with h0 | h0
 ·have := h.2.2; rw [List.eq_nil_of_length_eq_zero h0, textL_nil] at this; cases this
 ·exact h0
def Skips (s : List UInt8) : Prop := ∀ x, skipL (s ++ x) = s.length + skipL x
theorem tok_head {t : LTok} (h : TokOK t) (r : List UInt8) : skipL (t.text ++ r) = 0 := by
 have stop : ∀ (c : UInt8) (q : List UInt8), c ≠ 32 → c ≠ 10 → c ≠ 35 → skipL (c :: q) = 0 := fun c q h1 h2 h3 => by
  have e : ∀ n : UInt8, c ≠ n → ((c.toNat : Int) == (n.toNat : Int)) = false := fun n hn => by
   cases hh : ((c.toNat : Int) == (n.toNat : Int))
   ·rfl
   ·exact absurd (UInt8.toNat_inj.1 (by have := eq_of_beq hh; omega)) hn
  exact skipL_stop (e 32 h1) (e 10 h2) (e 35 h3)
 obtain ⟨h1, h4, ht⟩ := h
 have : t.kind = 1 ∨ t.kind = 2 ∨ t.kind = 3 ∨ t.kind = 4 := by omega
 rcases this with e | e | e | e
 ·rw [e, textL_1] at ht
  obtain ⟨c, q, e', hl, _⟩ := wordL_cons ht
  obtain ⟨a, b, d⟩ := letter_not_sep hl
  rw [e']; exact stop c _ a b d
 ·rw [e, textL_2, Bool.and_eq_true] at ht
  have hp : (partsL t.text).all (wordL 20) = true := by
   have := ht.1; unfold labelL at this; rw [Bool.and_eq_true] at this; exact this.2
  obtain ⟨_, c, q, e', hl⟩ := parts_inner _ hp
  obtain ⟨a, b, d⟩ := letter_not_sep hl
  rw [e']; exact stop c _ a b d
 ·rw [e, textL_3] at ht
  unfold numberL at ht
  cases hx : t.text with
  | nil => rw [hx] at ht; simp [Lib.hasPrefix, numCore] at ht
  | cons c q =>
   rw [hx] at ht
   by_cases hp : Lib.hasPrefix (c :: q) [45] = true
   ·obtain rfl : 45 = c := by simpa [Lib.hasPrefix] using hp
    exact stop 45 _ (by decide) (by decide) (by decide)
   ·rw [if_neg hp] at ht
    have hd := (numCore_all ht).2
    simp only [List.all_cons, Bool.and_eq_true] at hd
    refine stop c _ ?_ ?_ ?_ <;> (rintro rfl; have := hd.1; simp [digitB, isDigit] at this)
 ·rw [e, textL_4, Bool.and_eq_true] at ht
  rcases sign_cases (by simpa using ht.1) (by simpa using ht.2) with hx | hx | hx | ⟨c, hx, hc⟩
  ·rw [hx]; exact stop 45 _ (by decide) (by decide) (by decide)
  ·rw [hx]; exact stop 58 _ (by decide) (by decide) (by decide)
  ·rw [hx]; exact stop 124 _ (by decide) (by decide) (by decide)
  ·rw [hx]
   refine stop c _ ?_ ?_ ?_ <;> (rintro rfl; simp [onesL, Lib.indexByte] at hc)
def flatL : List (List UInt8 × LTok) → List UInt8 → List UInt8
 | [], z => z
 | (s, t) :: L, z => s ++ (t.text ++ flatL L z)
def LaidOK (L : List (List UInt8 × LTok)) : Prop := ∀ x ∈ L, Skips x.1 ∧ TokOK x.2
def Inner (L : List (List UInt8 × LTok)) : Prop := ∀ x ∈ L, ∃ c q, x.1 = c :: q ∧ (c = 32 ∨ c = 10)
theorem flat_delim {L : List (List UInt8 × LTok)} {z : List UInt8} (h : Inner L) (hz : Delim z) : Delim (flatL L z) := by
 cases L with
 | nil => exact hz
 | cons x L =>
  obtain ⟨s, t⟩ := x
  obtain ⟨c, q, e, hc⟩ := h _ (List.mem_cons_self ..)
  simp only at e
  refine .inr ⟨c, q ++ (t.text ++ flatL L z), ?_, hc⟩
  simp [flatL, e]
def kt (t : LTok) : Int × List UInt8 := (t.kind, t.text)
theorem scan_flat (z : List UInt8) (hz : skipL z = z.length) (hzd : Delim z) : ∀ (L : List (List UInt8 × LTok)) (t : LTok) (f p : Nat) (acc : List LTok), TokOK t → LaidOK L → Inner L → (t.text ++ flatL L z).length < f →
  ∃ ts, scanT f (t.text ++ flatL L z) p acc = (acc ++ ts, none) ∧ ts.map kt = kt t :: L.map (fun x => kt x.2) := by
 intro L
 induction L with
 | nil =>
  intro t f p acc ht _ _ hf
  cases f with
  | zero => omega
  | succ f =>
   have hp := tok_pos ht
   have hn := next_of_tok ht hzd
   refine ⟨[tokL (t.text ++ z) p], ?_, ?_⟩
   ·show scanT (f + 1) (t.text ++ z) p acc = _
    rw [scanT_step (by simp; omega) (ok_of_tok ht hzd)]
    have ha : advL (t.text ++ z) = (t.text ++ z).length := by
     unfold advL; rw [hn]; simp [hz]
    rw [ha, List.drop_length, scanT_end rfl]
   ·simp [tokL, hn, kt]
 | cons x L ih =>
  intro t f p acc ht hL hI hf
  obtain ⟨s, u⟩ := x
  obtain ⟨hs, hu⟩ := hL _ (List.mem_cons_self ..)
  have hd := flat_delim hI hzd
  cases f with
  | zero => omega
  | succ f =>
   have hp := tok_pos ht
   have hn := next_of_tok ht hd
   have ha : advL (t.text ++ flatL ((s, u) :: L) z) = t.text.length + s.length := by
    unfold advL; rw [hn]
    simp only [List.drop_left', flatL]
    rw [hs, tok_head hu]; rfl
   rw [scanT_step (by simp; omega) (ok_of_tok ht hd), ha]
   have hdr : (t.text ++ flatL ((s, u) :: L) z).drop (t.text.length + s.length) = u.text ++ flatL L z := by
    rw [← List.drop_drop, List.drop_left']
    ·simp [flatL]
    ·rfl
   rw [hdr]
   obtain ⟨ts, h1, h2⟩ := ih u f (p + (t.text.length + s.length)) (acc ++ [tokL (t.text ++ flatL ((s, u) :: L) z) p]) hu (fun y hy => hL y (List.mem_cons_of_mem _ hy)) (fun y hy => hI y (List.mem_cons_of_mem _ hy)) (by simp only [flatL, List.length_append] at hf ⊢; omega)
   refine ⟨tokL (t.text ++ flatL ((s, u) :: L) z) p :: ts, ?_, ?_⟩
   ·rw [h1]; simp
   ·simp [tokL, hn, kt, h2]
theorem scan_laid {s : List UInt8} {t : LTok} {L : List (List UInt8 × LTok)} {z : List UInt8} (hs : Skips s) (ht : TokOK t) (hL : LaidOK L) (hI : Inner L) (hz : skipL z = z.length) (hzd : Delim z) :
  ∃ ts, scanAll (flatL ((s, t) :: L) z) = (ts, none) ∧ ts.map kt = kt t :: L.map (fun x => kt x.2) := by
 have hk : skipL (flatL ((s, t) :: L) z) = s.length := by
  show skipL (s ++ (t.text ++ flatL L z)) = _
  rw [hs, tok_head ht]; rfl
 unfold scanAll
 rw [hk]
 have hd : (flatL ((s, t) :: L) z).drop s.length = t.text ++ flatL L z := by simp [flatL]
 rw [hd]
 obtain ⟨ts, h1, h2⟩ := scan_flat z hz hzd L t ((flatL ((s, t) :: L) z).length + 1) s.length [] ht hL hI (by simp [flatL]; omega)
 exact ⟨ts, by rw [h1]; simp, h2⟩
end Go.Proofs.YtnnolijagpakiaaGreatDoor
namespace Go.Proofs.YtnnolijagpakiaaGreatDoor
section
open Go Go.RowKit
def encT (t : LTok) : List D := [.raw (.int .i64 t.kind), .raw (.string ⟨t.text.toArray⟩), .raw (.int .i64 t.pos)]
def encTs (l : List LTok) : List (List D) := l.map encT
theorem encTs_length (l : List LTok) : (encTs l).length = l.length := by simp [encTs]
theorem encTs_at (l : List LTok) (i : Nat) (h : i < l.length) : (encTs l).getD i [] = encT l[i] := by
 simp [encTs, List.getD_eq_getElem?_getD, h]
theorem encTs_row (l : List LTok) : ∀ r ∈ encTs l, r.length = 3 := fun r h => by
 obtain ⟨t, _, rfl⟩ := List.mem_map.1 h; rfl
theorem encTs_fit (l : List LTok) : rowsFit 3 (encTs l) := by
 intro r hr
 obtain ⟨t, _, rfl⟩ := List.mem_map.1 hr
 exact ⟨rfl, fun x hx => by simp [encT] at hx; rcases hx with rfl | rfl | rfl <;> rfl⟩
end
end Go.Proofs.YtnnolijagpakiaaGreatDoor
