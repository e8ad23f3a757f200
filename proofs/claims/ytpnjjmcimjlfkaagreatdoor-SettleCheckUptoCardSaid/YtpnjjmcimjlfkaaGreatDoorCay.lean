/- Texts of this proof, part 25: what the proof uses of them. -/
import Derived.Test.YtpnjjmcimjlfkaaGreatDoorCao
import Derived.Test.YtpnjjmcimjlfkaaGreatDoorCax
import Derived.Test.YtpnjjmcimjlfkaaGreatDoorCap
import Derived.Test.YtpnjjmcimjlfkaaGreatDoorCaq
set_option maxRecDepth 100000
set_option maxHeartbeats 64000000
namespace Go.Proofs.YtpnjjmcimjlfkaaGreatDoor
section
open Go Go.RowKit
theorem zjA {s : ByteArray} {j : Nat} (hj : j < s.size) : s.data[j]! = s.data.toList.getD j 0 := by
 have h : j < s.data.size := hj
 rw [getElem!_pos s.data j h]
 have h2 : j < s.data.toList.length := by simpa using h
 rw [List.getD_eq_getElem?_getD, Array.getElem?_toList, Array.getElem?_eq_getElem h]
 rfl
theorem ztj {s : ByteArray} {k : Nat} (hk : k ≤ s.size) (h : ∀ j, k ≤ j → j < s.size → ¬ (s.data.toList.getD j 0).toNat = 47) (h1 : k = 0 ∨ (s.data.toList.getD (k - 1) 0).toNat = 47) : Lib.lastIndexByte s 47 + 1 = k := by
 unfold Lib.lastIndexByte
 rcases Lib.lastIdx_spec s 47 s.size with ⟨h5, h6⟩ | ⟨i, hi, h5, h6, h7⟩
 ·rw [h5]
  rcases h1 with h1 | h1
  ·omega
  ·by_cases h0 : k = 0
   ·omega
   ·have := h6 (k - 1) (by omega)
    rw [zjA (by omega)] at this
    omega
 ·rw [h5]
  rw [zjA hi] at h6
  have h8 : i < k := by
   by_cases h9 : k ≤ i
   ·exact absurd (by omega) (h i h9 hi)
   ·omega
  rcases h1 with h1 | h1
  ·omega
  ·by_cases h9 : i < k - 1
   ·have := h7 (k - 1) h9 (by omega)
    rw [zjA (by omega)] at this
    omega
   ·omega
abbrev zrL (s : ByteArray) (k : Nat) : St := ⟨[(0, .d (.raw (.string s))), (3, .d (.raw (.int .i64 k)))], [], []⟩
theorem zmi (s : ByteArray) : Con Tryz.prog 149 [.d (.raw (.string s))] (.d (.raw (.string (zY s)))) := by
 refine zj Tryz.func149 rfl (by decide +kernel) rfl rfl (by simp [Tryz.ntmps149]) fun A hA => ?_
 rw [Tryz.ntmps149] at hA
 refine goC 400 ?_
 simp only [go_sem, hA]
 refine zc 400 (zil s) rfl (by simp only [go_sem]) (by simp only [go_sem, hA]) ?_
 cases hl : zR s.data.toList with
 | false =>
  have hr : zY s = ⟨#[]⟩ := by unfold zY; rw [hl]; rfl
  simp only [go_sem, hA, hr, Tryz.results149]
 | true =>
  have hr : zY s = s.extract (Lib.lastIndexByte s 47 + 1).toNat s.size := by unfold zY; rw [hl]; rfl
  have hsz : s.size ≤ 90 := by
   unfold zR at hl
   simp only [Bool.and_eq_true, decide_eq_true_eq] at hl
   exact hl.1
  simp only [go_sem, hA]
  refine ze [0, 3] [] [] (fun y σ => ∃ k : Nat, k ≤ s.size ∧ y = k ∧ (∀ j, k ≤ j → j < s.size → ¬ (s.data.toList.getD j 0).toNat = 47) ∧ σ = zrL s k) s.size ⟨s.size, by omega, rfl, fun j h1 h2 => by omega, by simp only [go_sem, zrL]⟩ ?_
  rintro k σ ⟨k', hk, rfl, hf, rfl⟩
  refine goC 400 ?_
  by_cases hlt : 0 < k
  ·have k1 : decide ((0 : Int) < (k : Int)) = true := decide_eq_true (by omega)
   have hk1 : ((k : Int) - 1).toNat = k - 1 := by omega
   have hin : zf ((k : Int) - 1) := by unfold zf; omega
   by_cases h47 : ((s.data.toList.getD (k - 1) 0).toNat : Int) = 47
   ·have g : (decide ¬ ((s.data.toList.getD (k - 1) 0).toNat : Int) = 47) = false := decide_eq_false fun h => h h47
    have he := ztj hk hf (.inr (by omega))
    have hr2 : zY s = s.extract k s.size := by rw [hr, he, Int.toNat_natCast]
    simp only [go_sem, hA, zrL, k1, hk1, g, hr2, Int.toNat_natCast, Tryz.results149]
    exact ⟨hin, ⟨by omega, by omega⟩, ⟨by omega, by omega⟩⟩
   ·have g : (decide ¬ ((s.data.toList.getD (k - 1) 0).toNat : Int) = 47) = true := decide_eq_true h47
    simp only [go_sem, hA, zrL, k1, hk1, g]
    refine ⟨hin, ⟨by omega, by omega⟩, hin, k - 1, by omega, k - 1, by omega, rfl, fun j h1 h2 => ?_, ?_⟩
    ·by_cases e : j = k - 1
     ·subst e; omega
     ·exact hf j (by omega) h2
    ·have e : ((k - 1 : Nat) : Int) = (k : Int) - 1 := by omega
     simp only [e]
  ·have k1 : decide ((0 : Int) < (k : Int)) = false := decide_eq_false (by omega)
   obtain rfl : k = 0 := by omega
   have he := ztj hk hf (.inl rfl)
   have hr2 : zY s = s.extract 0 s.size := by rw [hr, he]; rfl
   simp only [go_sem, hA, zrL, undef, hr2, Tryz.results149]
   exact ⟨by omega, by rfl⟩
abbrev zvS (label : ByteArray) (l : List ByteArray) (q : Nat) : St := ⟨[(0, .d (.raw (.string label))), (1, .d (.sl (zt l))), (5, .d (.raw (.int .i64 q)))], [], []⟩
abbrev zvR (label : ByteArray) (l : List ByteArray) (q k : Nat) : St := ⟨[(0, .d (.raw (.string label))), (1, .d (.sl (zt l))), (5, .d (.raw (.int .i64 q))), (6, .d (.raw (.int .i64 k)))], [], []⟩
theorem zzj (label : ByteArray) (l : List ByteArray) (hl : l.length ≤ 1048576) : Con Tryz.prog 84 [.d (.raw (.string label)), .d (.sl (zt l))] (.d (.raw (.int .i64 (zl (zcz label l) l.length)))) := by
 refine zj Tryz.func84 rfl (by decide +kernel) rfl rfl (by simp [Tryz.ntmps84]) fun A hA => ?_
 rw [Tryz.ntmps84] at hA
 refine goC 400 ?_
 simp only [go_sem, hA]
 refine ze [0, 1, 5] [] [] (fun y σ => ∃ q : Nat, q ≤ l.length ∧ y = l.length - q ∧ zl (zcz label l) q = 0 ∧ σ = zvS label l q) l.length ⟨0, by omega, by omega, rfl, by simp only [go_sem, zvS]⟩ ?_
 rintro y σ ⟨q, hq, rfl, hf, rfl⟩
 refine goC 400 ?_
 by_cases hlt : q < l.length
 case neg =>
  have k1 : decide ((q : Int) < (l.length : Int)) = false := decide_eq_false (by omega)
  obtain rfl : q = l.length := by omega
  simp only [go_sem, hA, zvS, za, k1, hf, Tryz.results84]
 have k1 : decide ((q : Int) < (l.length : Int)) = true := decide_eq_true (by omega)
 have hat := zgU l q hlt
 have hhit : ∀ e : Int, ¬ e = 0 → zcz label l q = e → zl (zcz label l) l.length = e := fun e h0 h => by
  have h2 := zC (n := l.length) hf hlt (by rw [h]; exact h0)
  rw [h2, h]
 simp only [go_sem, hA, zvS, za, k1, Int.toNat_natCast, zJ l q hlt]
 refine ⟨⟨by omega, by omega⟩, ?_⟩
 refine zc 400 (zmi l[q]) rfl (by simp only [go_sem]) (by simp only [go_sem, hA]) ?_
 simp only [go_sem]
 refine zc 400 (zwd (zY l[q])) rfl (by simp only [go_sem]) (by simp only [go_sem, hA]) ?_
 cases hn : zah (zY l[q]) with
 | false =>
  have hr := hhit 6 (by decide) (by unfold zcz; rw [hat, hn]; rfl)
  simp only [go_sem, hA, hr, Tryz.results84]
 | true =>
 have hu : zcz label l q = if (l.take q).any (fun u => decide (zY u = zY l[q])) then 7 else if l[q] = label then 23 else 0 := by unfold zcz; rw [hat, hn]; rfl
 simp only [go_sem, hA]
 refine ze [0, 1, 5, 6] [] [] (fun y σ => ∃ k : Nat, k ≤ q ∧ y = q - k ∧ (l.take k).any (fun u => decide (zY u = zY l[q])) = false ∧ σ = zvR label l q k) q ⟨0, by omega, by omega, rfl, by simp only [go_sem, zvR]⟩ ?_
 rintro y σ ⟨k, hk, rfl, hf2, rfl⟩
 refine goC 400 ?_
 by_cases hlt2 : k < q
 ·have k2 : decide ((k : Int) < (q : Int)) = true := decide_eq_true (by omega)
  have hkl : k < l.length := by omega
  simp only [go_sem, hA, zvR, za, k2, Int.toNat_natCast, zJ l k hkl, mixed]
  refine ⟨⟨by omega, by omega⟩, ?_⟩
  refine zbk 400 (zmi l[k]) rfl (by simp only [go_sem]) (by simp only [go_sem, hA]) ?_
  simp only [go_sem, hA, za, Int.toNat_natCast, zJ l q hlt]
  refine ⟨⟨by omega, by omega⟩, ?_⟩
  refine zbk 400 (zmi l[q]) rfl (by simp only [go_sem]) (by simp only [go_sem, hA]) ?_
  cases he : decide (zY l[k] = zY l[q]) with
  | true =>
   have hr := hhit 7 (by decide) (by
    rw [hu, if_pos]
    exact List.any_eq_true.2 ⟨l[k], List.mem_take_iff_getElem.2 ⟨k, by omega, rfl⟩, he⟩)
   simp only [go_sem, hA, he, hr, Tryz.results84]
   show chk _ _ _ = true
   kernel_rfl
  | false =>
   simp only [go_sem, hA, he]
   refine ⟨by show chk _ _ _ = true; kernel_rfl, by unfold zf; omega, q - (k + 1), by omega, k + 1, by omega, rfl, ?_, rfl⟩
   rw [List.take_succ_eq_append_getElem hkl, List.any_append, hf2]
   simp [he]
 ·have k2 : decide ((k : Int) < (q : Int)) = false := decide_eq_false (by omega)
  obtain rfl : k = q := by omega
  rw [hf2] at hu
  simp only [go_sem, hA, zvR, za, k2, Int.toNat_natCast, zJ l k hlt]
  refine ⟨⟨by omega, by omega⟩, ?_⟩
  by_cases h2 : l[k] = label
  ·have g2 : decide (l[k] = label) = true := decide_eq_true h2
   have hr := hhit 23 (by decide) (by rw [hu]; exact if_pos h2)
   simp only [go_sem, hA, g2, hr, Tryz.results84]
  ·have g2 : decide (l[k] = label) = false := decide_eq_false h2
   have hz := zr hf (by rw [hu]; exact if_neg h2)
   simp only [go_sem, hA, g2]
   exact ⟨by unfold zf; omega, l.length - (k + 1), by omega, k + 1, by omega, rfl, hz, rfl⟩
abbrev zBP (k : Int) (n m : ByteArray) (i d : Int) (s : List Ex) (nm : ByteArray) (q : Nat) : St := ⟨[(1, .d (.raw (.string nm))), (2, .box 0 0), (5, .d (.raw (.int .i64 q)))], [(0, some (.cell 105 (zns k n m i d s)))], []⟩
theorem rRefers_step (N : Nat) (nm : ByteArray) (ih : ∀ t : Ex, zb t < N → zb t ≤ 1048576 → Con Tryz.prog 153 [avE t, .d (.raw (.string nm))] (.d (.raw (.bool (zcI (zbZ nm) t)))))
  (k : Int) (n m : ByteArray) (i d : Int) (s : List Ex) (hN : zb (.mk k n m i d s) < N + 1) (hb : zb (.mk k n m i d s) ≤ 1048576) : Con Tryz.prog 153 [avE (.mk k n m i d s), .d (.raw (.string nm))] (.d (.raw (.bool (zcI (zbZ nm) (.mk k n m i d s))))) := by
 rw [zb] at hN hb
 have hlen := zI s
 refine zj Tryz.func153 rfl (by decide +kernel) rfl (by simp only [AV.closed, zz, avE, zbC, Bool.and_self]) (by simp [Tryz.ntmps153]) fun A hA => ?_
 rw [Tryz.ntmps153] at hA
 refine goC 300 ?_
 have hr0 : zcI (zbZ nm) (.mk k n m i d s) = (decide (k = 5) && decide (n = nm) || zdn (zbZ nm) s) := by rw [zcI]; rfl
 cases hk : decide (k = 5)
 case' true => cases hn : decide (n = nm)
 case true.true =>
  rw [hk, hn] at hr0
  simp only [go_sem, hA, avE, zcc, hk, hn, hr0, Bool.true_and, Bool.true_or, Tryz.results153]
 all_goals
  rw [hk] at hr0
  try rw [hn] at hr0
  simp only [Bool.false_and, Bool.true_and, Bool.false_or] at hr0
  first | simp only [go_sem, hA, avE, zcc, hk, hn] | simp only [go_sem, hA, avE, zcc, hk, undef]
  refine ze [1, 2, 5] [0] [] (fun x σ => ∃ q : Nat, q ≤ s.length ∧ x = s.length - q ∧ zdn (zbZ nm) (s.take q) = false ∧ σ = zBP k n m i d s nm q) s.length ⟨0, by omega, by omega, rfl, by simp only [go_sem, zBP]⟩ ?_
  rintro x σ ⟨q, hq, rfl, hf, rfl⟩
  refine goC 300 ?_
  by_cases hlt : q < s.length
  ·have g1 : decide ((q : Int) < (s.length : Int)) = true := decide_eq_true (by omega)
   have hn1 := zaP s q hlt
   have hc := ih s[q] (by omega) (by omega)
   simp only [go_sem, hA, zBP, zm, g1, Int.toNat_natCast, zck s q hlt]
   refine ⟨⟨by omega, by omega⟩, ?_⟩
   refine zc 300 hc rfl (by simp only [go_sem, zw]) (by simp only [go_sem, hA]) ?_
   cases he : zcI (zbZ nm) s[q] with
   | true =>
    rw [zwM _ s q hlt he] at hr0
    simp only [go_sem, hA, hr0, Tryz.results153]
   | false =>
    simp only [go_sem, hA]
    exact ⟨by unfold zf; omega, s.length - (q + 1), by omega, q + 1, by omega, rfl, by rw [znB _ s q hlt, hf, he]; rfl, rfl⟩
  ·have g1 : decide ((q : Int) < (s.length : Int)) = false := decide_eq_false (by omega)
   obtain rfl : q = s.length := by omega
   rw [List.take_length] at hf
   rw [hf] at hr0
   simp only [go_sem, hA, zBP, zm, g1, hr0, Tryz.results153]
theorem zxv (nm : ByteArray) (N : Nat) : ∀ t : Ex, zb t < N → zb t ≤ 1048576 → Con Tryz.prog 153 [avE t, .d (.raw (.string nm))] (.d (.raw (.bool (zcI (zbZ nm) t)))) := by
 induction N with
 | zero => intro t h; omega
 | succ N ih => intro t h hb; cases t; exact rRefers_step N nm ih _ _ _ _ _ _ h hb
end
section
open Go Go.RowKit
theorem zzl (label : ByteArray) (d : Dc) (hb : zb d.body ≤ 524288) : Con Tryz.prog 85 [.d (.raw (.string label)), avD d] (.d (.raw (.int .i64 (zBT label d)))) := by
 refine zj Tryz.func85 rfl (by decide +kernel) rfl rfl (by simp [Tryz.ntmps85]) fun A hA => ?_
 rw [Tryz.ntmps85] at hA
 have hr0 : zBT label d = if d.id < 1 then 2 else if ¬ zaA d = 0 then zaA d else if zaV 4 d.body then 9 else if 0 < (zhn d.body).length then 21 else if zcI (zbZ label) d.body then 1 else 0 := rfl
 refine goC 400 ?_
 by_cases h1 : d.id < 1
 ·have g1 : decide (d.id < 1) = true := decide_eq_true h1
  rw [if_pos h1] at hr0
  simp only [go_sem, hA, avD, g1, hr0, Tryz.results85]
 have g1 : decide (d.id < 1) = false := decide_eq_false h1
 rw [if_neg h1] at hr0
 simp only [go_sem, hA, avD, g1]
 refine zc 400 (zpY d hb) rfl (by simp only [go_sem, avD]) (by simp only [go_sem, hA]) ?_
 by_cases h2 : zaA d = 0
 case neg =>
  have g2 : (decide ¬ zaA d = 0) = true := decide_eq_true h2
  rw [if_pos h2] at hr0
  simp only [go_sem, hA, g2, hr0, Tryz.results85]
 have g2 : (decide ¬ zaA d = 0) = false := by simp [h2]
 rw [if_neg (by simp [h2])] at hr0
 simp only [go_sem, hA, g2]
 refine zc 400 (zzf 4 (zb d.body + 1) d.body (by omega) (by omega)) rfl (by simp only [go_sem, zw]) (by simp only [go_sem, hA]) ?_
 cases h3 : zaV 4 d.body with
 | true =>
  rw [h3, if_pos rfl] at hr0
  simp only [go_sem, hA, hr0, Tryz.results85]
 | false =>
 rw [h3, if_neg (by simp)] at hr0
 simp only [go_sem, hA]
 refine zc 400 (zBY d.body hb) rfl (by simp only [go_sem, zw]) (by simp only [go_sem, hA]) ?_
 by_cases hf : 0 < (zhn d.body).length
 ·have g5 : decide ((0 : Int) < ((zhn d.body).length : Int)) = true := decide_eq_true (by omega)
  rw [if_pos hf] at hr0
  simp only [go_sem, hA, za, g5, hr0, Tryz.results85]
 have g5 : decide ((0 : Int) < ((zhn d.body).length : Int)) = false := decide_eq_false (by omega)
 rw [if_neg hf] at hr0
 simp only [go_sem, hA, za, g5]
 refine zc 400 (zxv label (zb d.body + 1) d.body (by omega) (by omega)) rfl (by simp only [go_sem, zw]) (by simp only [go_sem, hA]) ?_
 cases h6 : zcI (zbZ label) d.body with
 | true =>
  rw [h6, if_pos rfl] at hr0
  simp only [go_sem, hA, hr0, Tryz.results85]
 | false =>
  rw [h6, if_neg (by simp)] at hr0
  simp only [go_sem, hA, hr0, Tryz.results85]
abbrev zwa (x : Mo) (q : Nat) : St := ⟨[(1, .box 0 0), (5, .d (.raw (.int .i64 q)))], [(0, some (.cell 56 [.d (.raw (.string x.label)), .d (.sl (zt x.uses)), .d (.sl (zaW x.decls))]))], []⟩
theorem zwe (x : Mo) (hb : ∀ d ∈ x.decls, zb d.body ≤ 524288) : Con Tryz.prog 34 [avM x] (.d (.raw (.int .i64 (zae x)))) := by
 refine zj Tryz.func34 rfl (by decide +kernel) rfl rfl (by simp [Tryz.ntmps34]) fun A hA => ?_
 rw [Tryz.ntmps34] at hA
 refine goC 400 ?_
 simp only [go_sem, hA, avM]
 refine zc 400 (zil x.label) rfl (by simp only [go_sem]) (by simp only [go_sem, hA]) ?_
 cases hl : zR x.label.data.toList with
 | false =>
  have hr : zae x = 6 := by unfold zae; rw [hl]; rfl
  simp only [go_sem, hA, hr, Tryz.results34]
 | true =>
 have hr0 : zae x = if ¬ zel x.uses = 0 then zel x.uses else if ¬ zl (zcz x.label x.uses) x.uses.length = 0 then zl (zcz x.label x.uses) x.uses.length
   else if 100 < x.decls.length then 4 else zl (bdE x.label x.decls) x.decls.length := by unfold zae; rw [hl, if_pos rfl, ztO]
 simp only [go_sem, hA]
 refine zc 400 (zBV x.uses) rfl (by simp only [go_sem]) (by simp only [go_sem, hA]) ?_
 by_cases hs : zel x.uses = 0
 case neg =>
  have g4 : (decide ¬ zel x.uses = 0) = true := decide_eq_true hs
  rw [if_pos hs] at hr0
  simp only [go_sem, hA, g4, hr0, Tryz.results34]
 have g4 : (decide ¬ zel x.uses = 0) = false := by simp [hs]
 have hul : x.uses.length ≤ 20 := by
  unfold zel at hs
  split at hs
  ·cases hs
  ·omega
 rw [if_neg (by simp [hs])] at hr0
 simp only [go_sem, hA, g4]
 refine zc 400 (zzj x.label x.uses (by omega)) rfl (by simp only [go_sem]) (by simp only [go_sem, hA]) ?_
 by_cases hu : zl (zcz x.label x.uses) x.uses.length = 0
 case neg =>
  have g5 : (decide ¬ zl (zcz x.label x.uses) x.uses.length = 0) = true := decide_eq_true hu
  rw [if_pos hu] at hr0
  simp only [go_sem, hA, g5, hr0, Tryz.results34]
 have g5 : (decide ¬ zl (zcz x.label x.uses) x.uses.length = 0) = false := by simp [hu]
 rw [if_neg (by simp [hu])] at hr0
 by_cases h2 : 100 < x.decls.length
 ·have g2 : decide ((100 : Int) < (x.decls.length : Int)) = true := decide_eq_true (by omega)
  rw [if_pos h2] at hr0
  simp only [go_sem, hA, zi, g5, g2, hr0, Tryz.results34]
 have g2 : decide ((100 : Int) < (x.decls.length : Int)) = false := decide_eq_false (by omega)
 rw [if_neg h2] at hr0
 simp only [go_sem, hA, zi, g5, g2]
 refine ze [1, 5] [0] [] (fun y σ => ∃ q : Nat, q ≤ x.decls.length ∧ y = x.decls.length - q ∧ zl (bdE x.label x.decls) q = 0 ∧ σ = zwa x q) x.decls.length ⟨0, by omega, by omega, rfl, by simp only [go_sem, zwa]⟩ ?_
 rintro y σ ⟨q, hq, rfl, hf2, rfl⟩
 refine goC 400 ?_
 by_cases hlt : q < x.decls.length
 case neg =>
  have k1 : decide ((q : Int) < (x.decls.length : Int)) = false := decide_eq_false (by omega)
  obtain rfl : q = x.decls.length := by omega
  rw [hf2] at hr0
  simp only [go_sem, hA, zwa, zi, k1, hr0, Tryz.results34]
 have k1 : decide ((q : Int) < (x.decls.length : Int)) = true := decide_eq_true (by omega)
 have hat := zcH x.decls q hlt
 obtain ⟨d, hd⟩ : ∃ d, x.decls[q] = d := ⟨_, rfl⟩
 rw [hd] at hat
 have hc := zzl x.label d (hb d (by rw [← hd]; exact List.getElem_mem hlt))
 rw [zBS] at hc
 simp only [go_sem, hA, zwa, zi, k1, Int.toNat_natCast, zai x.decls q hlt, hd, zdm, mixed]
 refine ⟨⟨by omega, by omega⟩, ?_⟩
 refine zbk 400 hc rfl (by simp only [go_sem, avD]) (by simp only [go_sem, hA]) ?_
 have hbe : bdE x.label x.decls q = if ¬ zbf x.label d = 0 then zbf x.label d else if 0 < q ∧ d.id ≤ (atD x.decls (q - 1)).id then 10 else 0 := by unfold bdE; rw [hat]
 by_cases he : zbf x.label d = 0
 case neg =>
  have g6 : (decide ¬ zbf x.label d = 0) = true := decide_eq_true he
  rw [if_pos he] at hbe
  rw [zC hf2 hlt (by rw [hbe]; exact he), hbe] at hr0
  simp only [go_sem, hA, g6, hr0, Tryz.results34]
  show chk _ _ _ = true
  kernel_rfl
 have g6 : (decide ¬ zbf x.label d = 0) = false := by simp [he]
 rw [if_neg (by simp [he])] at hbe
 by_cases hq0 : 0 < q
 ·have k2 : decide ((0 : Int) < (q : Int)) = true := decide_eq_true (by omega)
  have hq1 : ((q : Int) - 1).toNat = q - 1 := by omega
  have hat1 := zcH x.decls (q - 1) (by omega)
  have hin : zf ((q : Int) - 1) := by unfold zf; omega
  rw [hat1] at hbe
  by_cases hi : d.id ≤ x.decls[q - 1].id
  ·have k3 : decide (d.id ≤ x.decls[q - 1].id) = true := decide_eq_true hi
   rw [if_pos ⟨hq0, hi⟩] at hbe
   rw [zC hf2 hlt (by rw [hbe]; decide), hbe] at hr0
   simp only [go_sem, hA, g6, k2, zi, hq1, Int.toNat_natCast, zai x.decls (q - 1) (by omega), zai x.decls q hlt, hd, zdm, k3, hr0, mixed, Tryz.results34]
   exact ⟨by show chk _ _ _ = true; kernel_rfl, hin, ⟨by omega, by omega⟩, ⟨by omega, by omega⟩, by show chk _ _ _ = true; kernel_rfl⟩
  ·have k3 : decide (d.id ≤ x.decls[q - 1].id) = false := decide_eq_false hi
   rw [if_neg fun h => hi h.2] at hbe
   simp only [go_sem, hA, g6, k2, zi, hq1, Int.toNat_natCast, zai x.decls (q - 1) (by omega), zai x.decls q hlt, hd, zdm, k3, mixed]
   exact ⟨by show chk _ _ _ = true; kernel_rfl, hin, ⟨by omega, by omega⟩, ⟨by omega, by omega⟩, by show chk _ _ _ = true; kernel_rfl, by unfold zf; omega, x.decls.length - (q + 1), by omega, q + 1, by omega, rfl, zr hf2 hbe, rfl⟩
 ·have k2 : decide ((0 : Int) < (q : Int)) = false := decide_eq_false (by omega)
  rw [if_neg fun h => hq0 h.1] at hbe
  simp only [go_sem, hA, g6, k2, undef, mixed]
  exact ⟨by show chk _ _ _ = true; kernel_rfl, by show chk _ _ _ = true; kernel_rfl, by unfold zf; omega, x.decls.length - (q + 1), by omega, q + 1, by omega, rfl, zr hf2 hbe, rfl⟩
end
section
open Go Go.RowKit
abbrev zrw (s : ByteArray) (q : Nat) : St := ⟨[(0, .d (.raw (.string s))), (3, .d (.raw (.int .i64 q)))], [], []⟩
theorem zzc (s : ByteArray) : Con Tryz.prog 155 [.d (.raw (.string s))] (.d (.raw (.bool (zan s.data.toList)))) := by
 refine zj Tryz.func155 rfl (by decide +kernel) rfl rfl (by simp [Tryz.ntmps155]) fun A hA => ?_
 rw [Tryz.ntmps155] at hA
 have hsl : s.data.toList.length = s.size := by simp
 refine goC 400 ?_
 by_cases h1 : s.size < 1
 ·have g1 : decide ((s.size : Int) < 1) = true := decide_eq_true (by omega)
  have hr : zan s.data.toList = false := by unfold zan; rw [hsl, decide_eq_false (by omega : ¬ 1 ≤ s.size)]; rfl
  simp only [go_sem, hA, g1, hr, undef, Tryz.results155]
 have g1 : decide ((s.size : Int) < 1) = false := decide_eq_false (by omega)
 by_cases h2 : 24 < s.size
 ·have g2 : decide ((24 : Int) < (s.size : Int)) = true := decide_eq_true (by omega)
  have hr : zan s.data.toList = false := by unfold zan; rw [hsl, decide_eq_false (by omega : ¬ s.size ≤ 24), Bool.and_false]; rfl
  simp only [go_sem, hA, g1, g2, hr, undef, Tryz.results155]
 have g2 : decide ((24 : Int) < (s.size : Int)) = false := decide_eq_false (by omega)
 have e3 : (s = ⟨#[46]⟩) ↔ s.data.toList = [46] := zlA s [46]
 have e4 : (s = ⟨#[46, 46]⟩) ↔ s.data.toList = [46, 46] := zlA s [46, 46]
 by_cases h3 : s = ⟨#[46]⟩
 ·have g3 : decide (s = ⟨#[46]⟩) = true := decide_eq_true h3
  have hr : zan s.data.toList = false := by rw [e3.1 h3]; decide
  simp only [go_sem, hA, g1, g2, g3, hr, undef, Tryz.results155]
 have g3 : decide (s = ⟨#[46]⟩) = false := decide_eq_false h3
 by_cases h4 : s = ⟨#[46, 46]⟩
 ·have g4 : decide (s = ⟨#[46, 46]⟩) = true := decide_eq_true h4
  have hr : zan s.data.toList = false := by rw [e4.1 h4]; decide
  simp only [go_sem, hA, g1, g2, g3, g4, hr, Tryz.results155]
 have g4 : decide (s = ⟨#[46, 46]⟩) = false := decide_eq_false h4
 have hv : zan s.data.toList = s.data.toList.all fun c => nmC c.toNat := by
  unfold zan
  have n3 : decide (¬ s.data.toList = [46]) = true := decide_eq_true fun h => h3 (e3.2 h)
  have n4 : decide (¬ s.data.toList = [46, 46]) = true := decide_eq_true fun h => h4 (e4.2 h)
  rw [hsl, decide_eq_true (by omega : 1 ≤ s.size), decide_eq_true (by omega : s.size ≤ 24), n3, n4]
  rfl
 simp only [go_sem, hA, g1, g2, g3, g4]
 refine ze [0, 3] [] [] (fun y σ => ∃ q : Nat, q ≤ s.size ∧ y = s.size - q ∧ ((s.data.toList.take q).all fun c => nmC c.toNat) = true ∧ σ = zrw s q) s.size ⟨0, by omega, by omega, rfl, by simp only [go_sem, zrw]⟩ ?_
 rintro y σ ⟨q, hq, rfl, hf, rfl⟩
 refine goC 400 ?_
 by_cases hlt : q < s.size
 ·have k1 : decide ((q : Int) < (s.size : Int)) = true := decide_eq_true (by omega)
  have hql : q < s.data.toList.length := by omega
  have hgd : s.data.toList.getD q 0 = s.data.toList[q] := by simp only [List.getD_eq_getElem?_getD, List.getElem?_eq_getElem hql, Option.getD_some]
  have hstep : nmC ((s.data.toList.getD q 0).toNat : Int) = true → ((s.data.toList.take (q + 1)).all fun c => nmC c.toNat) = true := fun hc => by
   rw [hgd] at hc
   rw [List.take_succ_eq_append_getElem hql, List.all_append, hf]
   simp only [List.all_cons, List.all_nil, hc, Bool.and_true]
  have hbad : nmC ((s.data.toList.getD q 0).toNat : Int) = false → zan s.data.toList = false := fun hc => by
   rw [hgd] at hc
   rw [hv, List.all_eq_false]
   exact ⟨_, List.getElem_mem hql, by rw [hc]; decide⟩
  obtain ⟨c, hcq⟩ : ∃ c, ((s.data.toList.getD q 0).toNat : Int) = c := ⟨_, rfl⟩
  rw [hcq] at hstep hbad
  clear hf hv hgd hql hsl
  rcases zcR (decide ((97 : Int) ≤ c)) (decide (c ≤ 122)) with ⟨l0, u0⟩ | l0 | ⟨l0, u0⟩
  all_goals first | have hn : nmC c = true := by (unfold nmC; simp only [*, Bool.and_true, Bool.false_and, Bool.and_false, Bool.false_or, Bool.true_or]) | rcases zcR (decide ((65 : Int) ≤ c)) (decide (c ≤ 90)) with ⟨l1, u1⟩ | l1 | ⟨l1, u1⟩
  all_goals first | have hn : nmC c = true := by (unfold nmC; simp only [*, Bool.and_true, Bool.false_and, Bool.and_false, Bool.false_or, Bool.true_or, Bool.or_true]) | rcases zcR (decide ((48 : Int) ≤ c)) (decide (c ≤ 57)) with ⟨l2, u2⟩ | l2 | ⟨l2, u2⟩
  all_goals first | have hn : nmC c = true := by (unfold nmC; simp only [*, Bool.and_true, Bool.false_and, Bool.and_false, Bool.false_or, Bool.true_or, Bool.or_true]) | cases e0 : decide (c = 46)
  all_goals first | have hn : nmC c = true := by (unfold nmC; simp only [*, Bool.and_true, Bool.false_and, Bool.and_false, Bool.false_or, Bool.true_or, Bool.or_true]) | cases e1 : decide (c = 95)
  all_goals first | have hn : nmC c = true := by (unfold nmC; simp only [*, Bool.and_true, Bool.false_and, Bool.and_false, Bool.false_or, Bool.true_or, Bool.or_true]) | cases e2 : decide (c = 45)
  all_goals first | have hn : nmC c = true := by (unfold nmC; simp only [*, Bool.and_true, Bool.false_and, Bool.and_false, Bool.true_or, Bool.or_true, Bool.or_false]) | have hn : nmC c = false := by (unfold nmC; simp only [*, Bool.false_and, Bool.and_false, Bool.or_false])
  all_goals first | (simp only [go_sem, zrw, Int.toNat_natCast, *, undef]; exact ⟨⟨by omega, by omega⟩, by unfold zf; omega, s.size - (q + 1), by omega, q + 1, by omega, rfl, hstep hn, rfl⟩) | (simp only [go_sem, zrw, Int.toNat_natCast, *, undef, hbad hn, Tryz.results155]; exact ⟨by omega, by omega⟩)
 ·have k1 : decide ((q : Int) < (s.size : Int)) = false := decide_eq_false (by omega)
  obtain rfl : q = s.size := by omega
  rw [List.take_of_length_le (by omega)] at hf
  rw [hf] at hv
  simp only [go_sem, hA, zrw, k1, hv, Tryz.results155]
end
section
open Go Go.RowKit
abbrev zrK (s : ByteArray) (q : Nat) : St := ⟨[(0, .d (.raw (.string s))), (5, .d (.raw (.int .i64 q)))], [], []⟩
theorem zDy (s : ByteArray) (hs : s.size ≤ 1099511627776) : Con Tryz.prog 154 [.d (.raw (.string s))] (.tup [.d (.raw (.string (zhQ s).1)), .d (.raw (.string (zhQ s).2.1)), .d (.raw (.bool (zhQ s).2.2))]) := by
 refine zj Tryz.func154 rfl (by decide +kernel) rfl rfl (by simp [Tryz.ntmps154]) fun A hA => ?_
 rw [Tryz.ntmps154] at hA
 have hsl : s.data.toList.length = s.size := by simp
 refine goC 400 ?_
 simp only [go_sem, hA]
 refine ze [0, 5] [] [] (fun y σ => ∃ q : Nat, q ≤ s.size ∧ y = s.size - q ∧ (∀ j, j < q → ¬ s.data.toList.getD j 0 = 47) ∧ σ = zrK s q) s.size ⟨0, by omega, by omega, by omega, by simp only [go_sem, zrK]⟩ ?_
 rintro y σ ⟨q, hq, rfl, hf, rfl⟩
 refine goC 400 ?_
 by_cases hlt : q < s.size
 ·have k1 : decide ((q : Int) < (s.size : Int)) = true := decide_eq_true (by omega)
  by_cases h47 : s.data.toList.getD q 0 = 47
  ·have g : decide (((s.data.toList.getD q 0).toNat : Int) = 47) = true := by rw [h47]; rfl
   have hi := zsT (l := s.data.toList) (q := q) (by omega) hf h47
   have hr : zhQ s = (s.extract 0 q, s.extract (q + 1) s.size, true) := by unfold zhQ; rw [hi, if_pos (by omega), Int.toNat_natCast]
   have hin : zf ((q : Int) + 1) := by unfold zf; omega
   have hn1 : ((q : Int) + 1).toNat = q + 1 := by omega
   simp only [go_sem, hA, zrK, k1, Int.toNat_natCast, g, hr, hn1, mixed, Tryz.results154]
   exact ⟨⟨by omega, by omega⟩, ⟨by omega, by omega⟩, hin, ⟨by omega, by omega⟩, by show chk _ _ _ = true; kernel_rfl⟩
  ·have g : decide (((s.data.toList.getD q 0).toNat : Int) = 47) = false := decide_eq_false fun h => h47 (UInt8.toNat_inj.1 (by have e47 : (47 : UInt8).toNat = 47 := rfl; omega))
   simp only [go_sem, hA, zrK, k1, Int.toNat_natCast, g]
   refine ⟨⟨by omega, by omega⟩, by unfold zf; omega, s.size - (q + 1), by omega, q + 1, by omega, rfl, fun j hj => ?_, rfl⟩
   by_cases e : j = q
   ·rw [e]; exact h47
   ·exact hf j (by omega)
 ·have k1 : decide ((q : Int) < (s.size : Int)) = false := decide_eq_false (by omega)
  obtain rfl : q = s.size := by omega
  have hi := zsU (l := s.data.toList) (fun j hj => hf j (by omega))
  have hr : zhQ s = (s, ⟨#[]⟩, false) := by unfold zhQ; rw [hi, if_neg (by omega)]
  simp only [go_sem, hA, zrK, k1, hr, Tryz.results154]
abbrev zyW (s : ByteArray) : St := ⟨[(0, .d (.raw (.string s)))], [], []⟩
theorem zwc (s : ByteArray) : Con Tryz.prog 86 [.d (.raw (.string s))] (.d (.raw (.bool (zbF s.data.toList)))) := by
 refine zj Tryz.func86 rfl (by decide +kernel) rfl rfl (by simp [Tryz.ntmps86]) fun A hA => ?_
 rw [Tryz.ntmps86] at hA
 have hsl : s.data.toList.length = s.size := by simp
 refine goC 400 ?_
 by_cases h1 : 100 < s.size
 ·have g1 : decide ((100 : Int) < (s.size : Int)) = true := decide_eq_true (by omega)
  have hr := zmn (l := s.data.toList) (by omega)
  simp only [go_sem, hA, g1, hr, Tryz.results86]
 have g1 : decide ((100 : Int) < (s.size : Int)) = false := decide_eq_false (by omega)
 have hr0 : zbF s.data.toList = zjQ s.data.toList := by
  unfold zbF zjQ
  rw [decide_eq_true (by omega : s.data.toList.length ≤ 100), Bool.true_and]
 simp only [go_sem, hA, g1]
 refine ze [0] [] [] (fun y σ => ∃ t : ByteArray, t.size ≤ s.size ∧ y = t.size ∧ zbF s.data.toList = zjQ t.data.toList ∧ σ = zyW t) s.size ⟨s, by omega, rfl, hr0, by simp only [go_sem, zyW]⟩ ?_
 rintro y σ ⟨t, ht, rfl, hf, rfl⟩
 refine goC 400 ?_
 have hcut := zvE t
 have hlt := zCB (s := t)
 have hc := zDy t (by omega)
 simp only [go_sem, hA, zyW]
 refine zc 400 hc rfl (by simp only [go_sem]) (by simp only [go_sem, hA]) ?_
 generalize zhQ t = r at hcut hlt
 obtain ⟨a, b, more⟩ := r
 simp only at hcut hlt
 simp only [go_sem, hA]
 refine zc 400 (zzc a) rfl (by simp only [go_sem]) (by simp only [go_sem, hA]) ?_
 cases hv : zan a.data.toList with
 | false =>
  rw [hv, Bool.false_and] at hcut
  rw [hcut] at hf
  simp only [go_sem, hA, hf, Tryz.results86]
 | true =>
  rw [hv, Bool.true_and] at hcut
  cases more with
  | false =>
   rw [if_neg (by simp)] at hcut
   rw [hcut] at hf
   simp only [go_sem, hA, hf, Tryz.results86]
  | true =>
   rw [if_pos rfl] at hcut
   have h2 := hlt rfl
   simp only [go_sem, hA]
   exact ⟨b.size, h2, b, by omega, rfl, by rw [hf, hcut], rfl⟩
theorem zzk (d p : ByteArray) : Con Tryz.prog 88 [.d (.raw (.string d)), .d (.raw (.string p))] (.d (.raw (.bool (zcf d p)))) := by
 refine zj Tryz.func88 rfl (by decide +kernel) rfl rfl (by simp [Tryz.ntmps88]) fun A hA => ?_
 rw [Tryz.ntmps88] at hA
 refine goC 400 ?_
 by_cases h1 : d.size < p.size
 ·have g1 : decide ((d.size : Int) < (p.size : Int)) = true := decide_eq_true (by omega)
  cases g2 : decide (p.extract 0 d.size = d) with
  | true =>
   have hr : zcf d p = decide (((p.data.toList.getD d.size 0).toNat : Int) = 47) := by
    unfold zcf
    rw [g2, decide_eq_true h1, Bool.true_and, Bool.true_and]
    refine decide_eq_decide.2 ⟨fun h => by rw [h]; rfl, fun h => UInt8.toNat_inj.1 (by have e47 : (47 : UInt8).toNat = 47 := rfl; omega)⟩
   simp only [go_sem, hA, g1, g2, Int.toNat_natCast, hr, Tryz.results88]
   exact ⟨⟨by omega, by omega⟩, ⟨by omega, by omega⟩⟩
  | false =>
   have hr : zcf d p = false := by unfold zcf; rw [g2, Bool.false_and, Bool.and_false]
   simp only [go_sem, hA, g1, g2, Int.toNat_natCast, undef, hr, Tryz.results88]
   exact ⟨by omega, by omega⟩
 ·have g1 : decide ((d.size : Int) < (p.size : Int)) = false := decide_eq_false (by omega)
  have hr : zcf d p = false := by unfold zcf; rw [decide_eq_false h1, Bool.false_and]
  simp only [go_sem, hA, g1, undef, hr, Tryz.results88]
end
section
open Go Go.RowKit Go.Shelf
attribute [local go_sem] Oper.semAt_some
theorem zDQ (a b : List UInt8) : (⟨a.toArray⟩ : ByteArray) ++ ⟨b.toArray⟩ = ⟨(a ++ b).toArray⟩ := by
 apply ByteArray.ext
 rw [ByteArray.data_append]
 simp
theorem zvM (a : List UInt8) : (⟨a.toArray⟩ : ByteArray).size = a.length := by
 show a.toArray.size = a.length
 simp
theorem zyJ {n : Int} (h0 : 0 ≤ n) (h1 : n < 256) : IntKind.u8.wrap n = n := by
 have h : IntKind.u8.wrap n = n % 256 := rfl
 rw [h]; omega
theorem zze (n : Nat) (hn : n ≤ 1099511627776) : Con Tryz.prog 249 [.d (.raw (.int .i64 n))] (.d (.raw (.string ⟨(zbj n).toArray⟩))) := by
 induction n using Nat.strongRecOn with
 | ind n ih =>
 refine zj Tryz.func249 rfl (by decide +kernel) rfl rfl (by simp [Tryz.ntmps249]) fun A hA => ?_
 rw [Tryz.ntmps249] at hA
 refine goC 400 ?_
 by_cases h : n < 128
 ·have g : decide ((n : Int) < 128) = true := decide_eq_true (by omega)
  have hw : IntKind.u8.wrap (n : Int) = n := zyJ (by omega) (by omega)
  have hr : zlW [[D.raw (Value.int IntKind.u8 (n : Int))]] = some [n.toUInt8] := rfl
  simp only [go_sem, hA, g, hw, hr, zgH h, Tryz.results249]
 ·have g : decide ((n : Int) < 128) = false := decide_eq_false (by omega)
  have hm : (n : Int).tmod 128 = ((n % 128 : Nat) : Int) := by rw [Int.tmod_eq_emod_of_nonneg (by omega)]; omega
  have hd : (n : Int).tdiv 128 = ((n / 128 : Nat) : Int) := by rw [Int.tdiv_eq_ediv_of_nonneg (by omega)]; omega
  have e1 : (128 : Int) + ((n % 128 : Nat) : Int) = ((n % 128 + 128 : Nat) : Int) := by omega
  have hw : IntKind.u8.wrap ((n % 128 + 128 : Nat) : Int) = ((n % 128 + 128 : Nat) : Int) := zyJ (by omega) (by omega)
  have hr : zlW [[D.raw (Value.int IntKind.u8 ((n % 128 + 128 : Nat) : Int))]] = some [(n % 128 + 128).toUInt8] := rfl
  have hl := zbX (n / 128)
  have hin1 : zf ((n % 128 + 128 : Nat) : Int) := by unfold zf; omega
  have hin2 : zf ((n / 128 : Nat) : Int) := by unfold zf; omega
  simp only [go_sem, hA, g, hm, hd, e1, hw, hr, mixed]
  refine ⟨by decide, hin1, ⟨by decide, hin2⟩, ?_⟩
  refine zbk 400 (ih (n / 128) (by omega) (by omega)) rfl (by simp only [go_sem]) (by simp only [go_sem, hA]) ?_
  simp only [go_sem, hA, zDQ, zvM, zgI h, Tryz.results249]
  exact ⟨by omega, by show chk _ _ _ = true; kernel_rfl⟩
theorem zxw (n : Nat) (hn : n ≤ 1099511627776) : Con Tryz.prog 185 [.d (.raw (.int .i64 n))] (.tup [.d (.raw (.string ⟨(zbj n).toArray⟩)), .d (.raw (.int .i64 0))]) := by
 refine zj Tryz.func185 rfl (by decide +kernel) rfl rfl (by simp [Tryz.ntmps185]) fun A hA => ?_
 rw [Tryz.ntmps185] at hA
 have g1 : decide ((n : Int) < 0) = false := decide_eq_false (by omega)
 have g2 : decide ((1099511627776 : Int) < (n : Int)) = false := decide_eq_false (by omega)
 refine goC 400 ?_
 simp only [go_sem, hA, g1, g2]
 refine zc 400 (zze n hn) rfl (by simp only [go_sem]) (by simp only [go_sem, hA]) ?_
 simp only [go_sem, hA, Tryz.results185]
theorem zuq (s : ByteArray) (hs : s.size ≤ 65536) : Con Tryz.prog 186 [.d (.raw (.string s))] (.tup [.d (.raw (.string ⟨(zbj s.size ++ s.data.toList).toArray⟩)), .d (.raw (.int .i64 0))]) := by
 refine zj Tryz.func186 rfl (by decide +kernel) rfl rfl (by simp [Tryz.ntmps186]) fun A hA => ?_
 rw [Tryz.ntmps186] at hA
 have g1 : decide ((65536 : Int) < (s.size : Int)) = false := decide_eq_false (by omega)
 have hl := zbX s.size
 have e : (⟨(zbj s.size).toArray⟩ : ByteArray) ++ s = ⟨(zbj s.size ++ s.data.toList).toArray⟩ := by rw [← zDQ]
 refine goC 400 ?_
 simp only [go_sem, hA, g1]
 refine zc 400 (zze s.size (by omega)) rfl (by simp only [go_sem]) (by simp only [go_sem, hA]) ?_
 simp only [go_sem, hA, e, zvM, Tryz.results186]
 omega
theorem zuu (n : Nat) (hn : n ≤ 1099511627776) : Con Tryz.prog 191 [.d (.raw (.int .i64 n))] (.d (.raw (.string ⟨(zbj n).toArray⟩))) := by
 refine zj Tryz.func191 rfl (by decide +kernel) rfl rfl (by simp [Tryz.ntmps191]) fun A hA => ?_
 rw [Tryz.ntmps191] at hA
 refine goC 400 ?_
 simp only [go_sem, hA]
 refine zc 400 (zxw n hn) rfl (by simp only [go_sem]) (by simp only [go_sem, hA]) ?_
 simp only [go_sem, hA, Tryz.results191]
theorem zzn (s : ByteArray) (hs : s.size ≤ 65536) : Con Tryz.prog 192 [.d (.raw (.string s))] (.d (.raw (.string ⟨(zbj s.size ++ s.data.toList).toArray⟩))) := by
 refine zj Tryz.func192 rfl (by decide +kernel) rfl rfl (by simp [Tryz.ntmps192]) fun A hA => ?_
 rw [Tryz.ntmps192] at hA
 refine goC 400 ?_
 simp only [go_sem, hA]
 refine zc 400 (zuq s hs) rfl (by simp only [go_sem]) (by simp only [go_sem, hA]) ?_
 simp only [go_sem, hA, Tryz.results192]
theorem zpZ (w : World) : Calls Tryz.prog 250 #[.agg #[.int .u64 0, .int .u64 0]] w fun e w' => e = .returned (.bool true) ∧ Below w.heap.size w w' := by
 go_enter Tryz.func250, Tryz.ntmps250
 go_wp2_with fail
 refine bodyPost_ret (v := .bool true) (by simp [results, Tryz.results250, go_sem]) rfl ?_
 exact ⟨rfl, (Below.refl _ _).alloc (Nat.le_refl _) _⟩
theorem zzm : Con Tryz.prog 250 [.agg [.d (.raw (.int .u64 0)), .d (.raw (.int .u64 0))]] (.d (.raw (.bool true))) := by
 refine ⟨⟨_, Tryz.func250, by decide +kernel, rfl⟩, rfl, fun F w vs hF hG hl hv => ?_⟩
 match vs, hl with
 | [v], _ =>
  have h0 := hv 0 (by simp) (by simp)
  simp only [List.getElem_cons_zero] at h0
  unfold zco at h0
  obtain ⟨us, rfl, hul, hu⟩ := h0.agg_eq
  match us, hul with
  | [a, b], _ =>
   have h1 := hu 0 (by simp) (by simp)
   have h2 := hu 1 (by simp) (by simp)
   simp only [List.getElem_cons_zero, List.getElem_cons_succ] at h1 h2
   rw [h1.raw_eq, h2.raw_eq]
   exact (zpZ w).mono fun e w' h => ⟨_, h.1, .d (.raw _), h.2⟩
theorem zzo (d : ByteArray) : Con Tryz.prog 188 [avO 1 d] (.d (.raw (.bool true))) := by
 refine zj Tryz.func188 rfl (by decide +kernel) rfl rfl (by simp [Tryz.ntmps188]) fun A hA => ?_
 rw [Tryz.ntmps188] at hA
 have z1 : decide ((1 : Int) = 2) = false := by decide
 have z2 : decide ((1 : Int) = 3) = false := by decide
 have z3 : (decide ¬ (1 : Int) = 2) = true := by decide
 refine goC 400 ?_
 simp only [go_sem, hA, z1, z2, z3, undef]
 refine zc 400 zzm rfl (by simp only [go_sem]) (by simp only [go_sem, hA]) ?_
 simp only [go_sem, hA, Tryz.results188]
theorem zuv (d : ByteArray) (hd : d.size ≤ 65536) : Con Tryz.prog 118 [avO 1 d] (.d (.raw (.int .i64 0))) := by
 refine zj Tryz.func118 rfl (by decide +kernel) rfl rfl (by simp [Tryz.ntmps118]) fun A hA => ?_
 rw [Tryz.ntmps118] at hA
 have z1 : decide ((1 : Int) = 2) = false := by decide
 have z2 : decide ((1 : Int) = 3) = false := by decide
 have z3 : decide ((1 : Int) < 1) = false := by decide
 have z4 : decide ((4 : Int) < 1) = false := by decide
 have g : decide ((65536 : Int) < (d.size : Int)) = false := decide_eq_false (by omega)
 refine goC 400 ?_
 simp only [go_sem, hA]
 refine zc 400 (zzo d) rfl (by simp only [go_sem]) (by simp only [go_sem, hA]) ?_
 simp only [go_sem, hA, z1, z2, g, Tryz.results118]
theorem zuw (d : ByteArray) (hd : d.size ≤ 65536) : Con Tryz.prog 119 [avO 1 d] (.d (.raw (.string ⟨(zbj 1 ++ (zbj d.size ++ d.data.toList)).toArray⟩))) := by
 refine zj Tryz.func119 rfl (by decide +kernel) rfl rfl (by simp [Tryz.ntmps119]) fun A hA => ?_
 rw [Tryz.ntmps119] at hA
 have z1 : decide ((1 : Int) = 2) = false := by decide
 have z2 : decide ((1 : Int) = 3) = false := by decide
 have hl1 := zbX 1
 have hl2 := zbX d.size
 refine goC 400 ?_
 simp only [go_sem, hA]
 refine zc 400 (zuu 1 (by decide)) rfl (by simp only [go_sem]) (by simp only [go_sem, hA]) ?_
 simp only [go_sem, hA, z1, z2]
 refine zc 400 (zzn d hd) rfl (by simp only [go_sem]) (by simp only [go_sem, hA]) ?_
 simp only [go_sem, hA, zDQ, zvM, Tryz.results119]
 simp
 omega
theorem zoz (d : ByteArray) (hd : d.size ≤ 60000) : Con Tryz.prog 54 [avO 1 d] (.d (.raw (.int .i64 0))) := by
 refine zj Tryz.func54 rfl (by decide +kernel) rfl rfl (by simp [Tryz.ntmps54]) fun A hA => ?_
 rw [Tryz.ntmps54] at hA
 have hl1 := zbX 1
 have hl2 := zbX d.size
 have z0 : (decide ¬ (0 : Int) = 0) = false := by decide
 have g : decide ((65536 : Int) < (((zbj 1 ++ (zbj d.size ++ d.data.toList)).length : Nat) : Int)) = false := decide_eq_false (by simp; omega)
 refine goC 400 ?_
 simp only [go_sem, hA]
 refine zc 400 (zuv d (by omega)) rfl (by simp only [go_sem]) (by simp only [go_sem, hA]) ?_
 simp only [go_sem, hA]
 refine zc 400 (zuw d (by omega)) rfl (by simp only [go_sem]) (by simp only [go_sem, hA]) ?_
 simp only [go_sem, hA, zvM, g, Tryz.results54]
theorem zCa (d : ByteArray) : Con Tryz.prog 87 [.d (.raw (.string d))] (avO 1 d) := by
 refine zj Tryz.func87 rfl (by decide +kernel) rfl rfl (by simp [Tryz.ntmps87]) fun A hA => ?_
 rw [Tryz.ntmps87] at hA
 refine goC 400 ?_
 simp only [go_sem, hA, Tryz.results87]
end
section
open Go Go.RowKit
abbrev zvV (l : List Fl) (q : Nat) : St := ⟨[(0, .d (.sl (zW l))), (3, .d (.raw (.int .i64 q)))], [], []⟩
abbrev zvU (l : List Fl) (q : Nat) : St := ⟨[(0, .d (.sl (zW l))), (4, .d (.raw (.int .i64 q)))], [], []⟩
abbrev zvT (l : List Fl) (q k : Nat) : St := ⟨[(0, .d (.sl (zW l))), (4, .d (.raw (.int .i64 q))), (5, .d (.raw (.int .i64 k)))], [], []⟩
theorem zBW (l : List Fl) (hl : l.length ≤ 1048576) (hd : ∀ x ∈ l, x.data.size ≤ 60000) : Con Tryz.prog 35 [.d (.sl (zW l))] (.d (.raw (.int .i64 (zbW l)))) := by
 rw [← zjk]
 refine zj Tryz.func35 rfl (by decide +kernel) rfl rfl (by simp [Tryz.ntmps35]) fun A hA => ?_
 rw [Tryz.ntmps35] at hA
 have z0 : (decide ¬ (0 : Int) = 0) = false := by decide
 refine goC 400 ?_
 by_cases h1 : 200 < l.length
 ·have g1 : decide ((200 : Int) < (l.length : Int)) = true := decide_eq_true (by omega)
  have hr : zdV l = 4 := if_pos h1
  simp only [go_sem, hA, zh, g1, hr, Tryz.results35]
 have g1 : decide ((200 : Int) < (l.length : Int)) = false := decide_eq_false (by omega)
 have hr0 : zdV l = if ¬ zl (zcs l) l.length = 0 then zl (zcs l) l.length else if l.any fun x => l.any fun y => zcf x.path y.path then 7 else 0 := if_neg h1
 simp only [go_sem, hA, zh, g1]
 refine ze [0, 3] [] [] (fun y σ => ∃ q : Nat, q ≤ l.length ∧ y = l.length - q ∧ zl (zcs l) q = 0 ∧ σ = zvV l q) l.length ⟨0, by omega, by omega, rfl, by simp only [go_sem, zvV]⟩ ?_
 rintro y σ ⟨q, hq, rfl, hf, rfl⟩
 refine goC 400 ?_
 by_cases hlt : q < l.length
 ·have k1 : decide ((q : Int) < (l.length : Int)) = true := decide_eq_true (by omega)
  have hat := zev l q hlt
  have hfe : zcs l q = if zbF l[q].path.data.toList then (if 0 < q ∧ leS l[q].path (atF l (q - 1)).path then 10 else 0) else 6 := by unfold zcs; rw [hat]
  simp only [go_sem, hA, zvV, zh, k1, Int.toNat_natCast, zam l q hlt]
  refine ⟨⟨by omega, by omega⟩, ?_⟩
  refine zc 400 (zwc l[q].path) rfl (by simp only [go_sem]) (by simp only [go_sem, hA]) ?_
  cases hp : zbF l[q].path.data.toList with
  | false =>
   rw [hp, if_neg (by simp)] at hfe
   rw [zC hf hlt (by rw [hfe]; decide), hfe, if_pos (by decide)] at hr0
   simp only [go_sem, hA, hr0, Tryz.results35]
  | true =>
  rw [hp, if_pos rfl] at hfe
  simp only [go_sem, hA, zh, Int.toNat_natCast, zam l q hlt]
  refine ⟨⟨by omega, by omega⟩, ?_⟩
  refine zc 400 (zCa l[q].data) rfl (by simp only [go_sem]) (by simp only [go_sem, hA]) ?_
  simp only [go_sem]
  refine zc 400 (zoz l[q].data (hd _ (List.getElem_mem hlt))) rfl (by simp only [go_sem]) (by simp only [go_sem, hA]) ?_
  by_cases hq0 : 0 < q
  ·have k2 : decide ((0 : Int) < (q : Int)) = true := decide_eq_true (by omega)
   have hq1 : ((q : Int) - 1).toNat = q - 1 := by omega
   have hat1 := zev l (q - 1) (by omega)
   have hin : zf ((q : Int) - 1) := by unfold zf; omega
   rw [hat1, zqv] at hfe
   cases hls : ltS l[q - 1].path l[q].path with
   | false =>
    have hls' : Op.bytesLess l[q - 1].path.data.toList l[q].path.data.toList = false := hls
    rw [hls, if_pos ⟨hq0, rfl⟩] at hfe
    rw [zC hf hlt (by rw [hfe]; decide), hfe, if_pos (by decide)] at hr0
    simp only [go_sem, hA, k2, zh, hq1, Int.toNat_natCast, zam l (q - 1) (by omega), zam l q hlt, hls', hr0, mixed, Tryz.results35]
    exact ⟨hin, ⟨by omega, by omega⟩, ⟨by omega, by omega⟩, by show chk _ _ _ = true; kernel_rfl⟩
   | true =>
    have hls' : Op.bytesLess l[q - 1].path.data.toList l[q].path.data.toList = true := hls
    rw [hls, if_neg (by simp)] at hfe
    simp only [go_sem, hA, k2, zh, hq1, Int.toNat_natCast, zam l (q - 1) (by omega), zam l q hlt, hls', mixed]
    exact ⟨hin, ⟨by omega, by omega⟩, ⟨by omega, by omega⟩, by show chk _ _ _ = true; kernel_rfl, by unfold zf; omega, l.length - (q + 1), by omega, q + 1, by omega, rfl, zr hf hfe, rfl⟩
  ·have k2 : decide ((0 : Int) < (q : Int)) = false := decide_eq_false (by omega)
   rw [if_neg fun h => hq0 h.1] at hfe
   simp only [go_sem, hA, k2, undef, mixed]
   exact ⟨by show chk _ _ _ = true; kernel_rfl, by unfold zf; omega, l.length - (q + 1), by omega, q + 1, by omega, rfl, zr hf hfe, rfl⟩
 have k1 : decide ((q : Int) < (l.length : Int)) = false := decide_eq_false (by omega)
 obtain rfl : q = l.length := by omega
 rw [if_neg (by simp [hf])] at hr0
 simp only [go_sem, hA, zvV, k1, zh]
 refine ze [0, 4] [] [] (fun y σ => ∃ q : Nat, q ≤ l.length ∧ y = l.length - q ∧ ((l.take q).any fun x => l.any fun y => zcf x.path y.path) = false ∧ σ = zvU l q) l.length ⟨0, by omega, by omega, rfl, by simp only [go_sem, zvU]⟩ ?_
 clear hlt k1 hq hf
 rintro y σ ⟨q, hq, rfl, hf, rfl⟩
 refine goC 400 ?_
 by_cases hlt : q < l.length
 case neg =>
  have k1 : decide ((q : Int) < (l.length : Int)) = false := decide_eq_false (by omega)
  obtain rfl : q = l.length := by omega
  rw [List.take_length] at hf
  rw [hf, if_neg (by simp)] at hr0
  simp only [go_sem, hA, zvU, zh, k1, hr0, Tryz.results35]
 have k1 : decide ((q : Int) < (l.length : Int)) = true := decide_eq_true (by omega)
 simp only [go_sem, hA, zvU, zh, k1]
 refine ze [0, 4, 5] [] [] (fun y σ => ∃ k : Nat, k ≤ l.length ∧ y = l.length - k ∧ ((l.take k).any fun y => zcf l[q].path y.path) = false ∧ σ = zvT l q k) l.length ⟨0, by omega, by omega, rfl, by simp only [go_sem, zvT]⟩ ?_
 rintro y σ ⟨k, hk, rfl, hf2, rfl⟩
 refine goC 400 ?_
 by_cases hlt2 : k < l.length
 ·have k2 : decide ((k : Int) < (l.length : Int)) = true := decide_eq_true (by omega)
  simp only [go_sem, hA, zvT, zh, k2, Int.toNat_natCast, zam l q hlt, zam l k hlt2, mixed]
  refine ⟨⟨by omega, by omega⟩, ⟨by omega, by omega⟩, ?_⟩
  refine zbk 400 (zzk l[q].path l[k].path) rfl (by simp only [go_sem]) (by simp only [go_sem, hA]) ?_
  cases hb : zcf l[q].path l[k].path with
  | true =>
   have ha : (l.any fun x => l.any fun y => zcf x.path y.path) = true := List.any_eq_true.2 ⟨_, List.getElem_mem hlt, List.any_eq_true.2 ⟨_, List.getElem_mem hlt2, hb⟩⟩
   rw [ha, if_pos rfl] at hr0
   simp only [go_sem, hA, hr0, Tryz.results35]
   show chk _ _ _ = true
   kernel_rfl
  | false =>
   simp only [go_sem, hA]
   exact ⟨by show chk _ _ _ = true; kernel_rfl, by unfold zf; omega, l.length - (k + 1), by omega, k + 1, by omega, rfl, zbq hlt2 hf2 hb, rfl⟩
 ·have k2 : decide ((k : Int) < (l.length : Int)) = false := decide_eq_false (by omega)
  obtain rfl : k = l.length := by omega
  rw [List.take_length] at hf2
  simp only [go_sem, hA, zvT, zh, k2]
  exact ⟨by unfold zf; omega, l.length - (q + 1), by omega, q + 1, by omega, rfl, zbq hlt hf hf2, rfl⟩
end
end Go.Proofs.YtpnjjmcimjlfkaaGreatDoor
