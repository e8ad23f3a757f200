/- Texts of this proof, part 26: what the proof uses of them. -/
import Derived.Test.YtpnjjmcimjlfkaaGreatDoorCay
import Derived.Test.YtpnjjmcimjlfkaaGreatDoorCav
import Derived.Test.YtpnjjmcimjlfkaaGreatDoorCax
set_option maxRecDepth 100000
set_option maxHeartbeats 64000000
namespace Go.Proofs.YtpnjjmcimjlfkaaGreatDoor
section
open Go Go.RowKit
theorem zoy (s : ByteArray) (hs : s.size ≤ 1099511627776) : Con Tryz.prog 36 [.d (.raw (.string s))] (.d (.raw (.bool (zcK s)))) := by
 refine zj Tryz.func36 rfl (by decide +kernel) rfl rfl (by simp [Tryz.ntmps36]) fun A hA => ?_
 rw [Tryz.ntmps36] at hA
 have hin : zf ((s.size : Int) - 3) := by unfold zf; omega
 refine goC 400 ?_
 by_cases h1 : 3 < s.size
 ·have g1 : decide ((0 : Int) < (s.size : Int) - 3) = true := decide_eq_true (by omega)
  have hn : ((s.size : Int) - 3).toNat = s.size - 3 := by omega
  cases g2 : decide (s.extract (s.size - 3) s.size = ⟨#[46, 112, 107]⟩) with
  | true =>
   have hr : zcK s = zR (s.extract 0 (s.size - 3)).data.toList := by unfold zcK; rw [g2, decide_eq_true h1, Bool.true_and, Bool.true_and]
   simp only [go_sem, hA, g1, g2, hn, Int.toNat_natCast]
   refine ⟨hin, ⟨by omega, by omega⟩, ⟨by omega, by omega⟩, ?_⟩
   refine zc 400 (zil (s.extract 0 (s.size - 3))) rfl (by simp only [go_sem]) (by simp only [go_sem, hA]) ?_
   simp only [go_sem, hA, hr, Tryz.results36]
  | false =>
   have hr : zcK s = false := by unfold zcK; rw [g2, Bool.false_and, Bool.and_false]
   simp only [go_sem, hA, g1, g2, hn, Int.toNat_natCast, undef, hr, Tryz.results36]
   exact ⟨hin, ⟨by omega, by omega⟩⟩
 ·have g1 : decide ((0 : Int) < (s.size : Int) - 3) = false := decide_eq_false (by omega)
  have hr : zcK s = false := by unfold zcK; rw [decide_eq_false h1, Bool.false_and]
  simp only [go_sem, hA, g1, undef, hr, Tryz.results36]
  exact hin
theorem zox (c : Tc) (k : Nat) : Con Tryz.prog 89 [avC c, .d (.raw (.int .i64 k))] (.tup [.d (.raw (.string (zaE c k))), .d (.raw (.bool (zgY c k)))]) := by
 refine zj Tryz.func89 rfl (by decide +kernel) rfl rfl (by simp [Tryz.ntmps89]) fun A hA => ?_
 rw [Tryz.ntmps89] at hA
 refine goC 400 ?_
 by_cases h0 : k = 0
 ·have g0 : decide ((k : Int) = 0) = true := decide_eq_true (by omega)
  have hr1 : zaE c k = c.left := if_pos h0
  have hr2 : zgY c k = c.inL := if_pos h0
  simp only [go_sem, hA, avC, g0, hr1, hr2, mixed, Tryz.results89]
  show chk _ _ _ = true
  kernel_rfl
 have g0 : decide ((k : Int) = 0) = false := decide_eq_false (by omega)
 by_cases h1 : k = 1
 ·have g1 : decide ((k : Int) = 1) = true := decide_eq_true (by omega)
  have hr1 : zaE c k = c.base := by unfold zaE zeS; rw [if_neg h0, if_pos h1]
  have hr2 : zgY c k = c.inB := by unfold zgY zeS; rw [if_neg h0, if_pos h1]
  simp only [go_sem, hA, avC, g0, g1, hr1, hr2, mixed, Tryz.results89]
  show chk _ _ _ = true
  kernel_rfl
 have g1 : decide ((k : Int) = 1) = false := decide_eq_false (by omega)
 have hr1 : zaE c k = c.right := by unfold zaE zeS; rw [if_neg h0, if_neg h1]
 have hr2 : zgY c k = c.inR := by unfold zgY zeS; rw [if_neg h0, if_neg h1]
 simp only [go_sem, hA, avC, g0, g1, hr1, hr2, mixed, Tryz.results89]
 show chk _ _ _ = true
 kernel_rfl
abbrev zvP (fs : List Fl) (l : List Tc) (q : Nat) : St := ⟨[(0, .d (.sl (zaI l))), (1, .d (.sl (zW fs))), (5, .d (.raw (.int .i64 q)))], [], []⟩
abbrev zhi (fs : List Fl) (l : List Tc) (q : Nat) (c : Tc) (t k : Nat) : St := ⟨[(0, .d (.sl (zaI l))), (1, .d (.sl (zW fs))), (5, .d (.raw (.int .i64 q))), (6, .box 6004 0), (t, .d (.raw (.int .i64 k)))],
 [(6004, some (.cell 58 [.d (.raw (.string c.path)), .d (.raw (.bool c.inB)), .d (.raw (.bool c.inL)), .d (.raw (.bool c.inR)), .d (.raw (.string c.base)), .d (.raw (.string c.left)), .d (.raw (.string c.right))]))], []⟩
def zih (fs : List Fl) (l : List Tc) : Int := if 200 < l.length then 4 else zl (zfu fs l) l.length
theorem zpD {c : Tc} {n : Nat} (h1 : c.base.size ≤ n) (h2 : c.left.size ≤ n) (h3 : c.right.size ≤ n) (k : Nat) : (zaE c k).size ≤ n := by
 unfold zaE zeS
 split
 ·exact h2
 ·split
  ·exact h1
  ·exact h3
theorem zzd (fs : List Fl) (l : List Tc) (hfs : fs.length ≤ 1048576) (ht : ∀ c ∈ l, c.path.size ≤ 1099511627776 ∧ c.base.size ≤ 60000 ∧ c.left.size ≤ 60000 ∧ c.right.size ≤ 60000) : Con Tryz.prog 37 [.d (.sl (zaI l)), .d (.sl (zW fs))] (.d (.raw (.int .i64 (zih fs l)))) := by
 refine zj Tryz.func37 rfl (by decide +kernel) rfl rfl (by simp [Tryz.ntmps37]) fun A hA => ?_
 rw [Tryz.ntmps37] at hA
 have z0 : (decide ¬ (0 : Int) = 0) = false := by decide
 refine goC 400 ?_
 by_cases h1 : 200 < l.length
 ·have g1 : decide ((200 : Int) < (l.length : Int)) = true := decide_eq_true (by omega)
  have hr : zih fs l = 4 := if_pos h1
  simp only [go_sem, hA, zq, g1, hr, Tryz.results37]
 have g1 : decide ((200 : Int) < (l.length : Int)) = false := decide_eq_false (by omega)
 have hr0 : zih fs l = zl (zfu fs l) l.length := if_neg h1
 simp only [go_sem, hA, zq, g1]
 refine ze [0, 1, 5] [] [] (fun y σ => ∃ q : Nat, q ≤ l.length ∧ y = l.length - q ∧ zl (zfu fs l) q = 0 ∧ σ = zvP fs l q) l.length ⟨0, by omega, by omega, rfl, by simp only [go_sem, zvP]⟩ ?_
 rintro y σ ⟨q, hq, rfl, hf, rfl⟩
 refine goC 400 ?_
 by_cases hlt : q < l.length
 case neg =>
  have k1 : decide ((q : Int) < (l.length : Int)) = false := decide_eq_false (by omega)
  obtain rfl : q = l.length := by omega
  rw [hf] at hr0
  simp only [go_sem, hA, zvP, zq, k1, hr0, Tryz.results37]
 have k1 : decide ((q : Int) < (l.length : Int)) = true := decide_eq_true (by omega)
 have hat := zcV l q hlt
 have htc := ht _ (List.getElem_mem hlt)
 have henc := zbP l q hlt
 generalize l[q] = c at hat htc henc
 have hfe : zfu fs l q = if ¬ zft c = 0 then zft c else if 0 < q ∧ leS c.path (atC l (q - 1)).path then 10 else if (zcL fs c.path).2 then 7 else 0 := by unfold zfu; rw [hat]
 have hx : zft c = if zbF c.path.data.toList = false then 6 else if zcK c.path = true then 9 else if (zjc c 0 || zjc c 1 || zjc c 2) = true then 1 else 0 := by unfold zft; rw [zBf]
 have hhit : ∀ e : Int, ¬ e = 0 → zft c = e → zih fs l = e := fun e h0 h => by
  rw [h, if_pos h0] at hfe
  rw [hr0, zC hf hlt (by rw [hfe]; exact h0), hfe]
 simp only [go_sem, hA, zvP, zq, k1, Int.toNat_natCast, henc, zgs]
 refine ⟨⟨by omega, by omega⟩, ?_⟩
 refine zc 400 (zwc c.path) rfl (by simp only [go_sem]) (by simp only [go_sem, hA]) ?_
 cases hp : zbF c.path.data.toList with
 | false =>
  have hr := hhit 6 (by decide) (by rw [hx, if_pos hp])
  simp only [go_sem, hA, hr, Tryz.results37]
 | true =>
 rw [if_neg (by simp [hp])] at hx
 simp only [go_sem, hA]
 refine zc 400 (zoy c.path htc.1) rfl (by simp only [go_sem]) (by simp only [go_sem, hA]) ?_
 cases hm : zcK c.path with
 | true =>
  have hr := hhit 9 (by decide) (by rw [hx, if_pos hm])
  simp only [go_sem, hA, hr, Tryz.results37]
 | false =>
 rw [if_neg (by simp [hm])] at hx
 simp only [go_sem, hA]
 refine ze [0, 1, 5, 6, 7] [6004] [] (fun y σ => ∃ k : Nat, k ≤ 3 ∧ y = 3 - k ∧ (∀ j, j < k → zjc c j = false) ∧ σ = zhi fs l q c 7 k) 3 ⟨0, by omega, by omega, by omega, by simp only [go_sem, zhi]⟩ ?_
 rintro y σ ⟨k, hk, rfl, hb, rfl⟩
 refine goC 400 ?_
 by_cases hk3 : k < 3
 ·have k2 : decide ((k : Int) < 3) = true := decide_eq_true (by omega)
  simp only [go_sem, hA, zhi, k2]
  refine zc 400 (zox c k) rfl (by simp only [go_sem, avC]) (by simp only [go_sem, hA]) ?_
  have hbk : zjc c k = (!zgY c k && decide (¬ zaE c k = ⟨#[]⟩)) := rfl
  have hok : zjc c k = false → ∀ j, j < k + 1 → zjc c j = false := fun h j hj => by
   by_cases e : j = k
   ·rw [e]; exact h
   ·exact hb j (by omega)
  cases h2 : zgY c k with
  | true =>
   rw [h2, Bool.not_true, Bool.false_and] at hbk
   simp only [go_sem, hA, undef]
   exact ⟨by unfold zf; omega, 3 - (k + 1), by omega, k + 1, by omega, rfl, hok hbk, rfl⟩
  | false =>
   rw [h2, Bool.not_false, Bool.true_and] at hbk
   cases h3 : decide (¬ zaE c k = ⟨#[]⟩) with
   | true =>
    rw [h3] at hbk
    have hany : (zjc c 0 || zjc c 1 || zjc c 2) = true := by
     have h4 : k = 0 ∨ k = 1 ∨ k = 2 := by omega
     rcases h4 with rfl | rfl | rfl <;> rw [hbk] <;> simp
    have hr := hhit 1 (by decide) (by rw [hx, if_pos hany])
    simp only [go_sem, hA, h3, hr, Tryz.results37]
   | false =>
    rw [h3] at hbk
    simp only [go_sem, hA, h3]
    exact ⟨by unfold zf; omega, 3 - (k + 1), by omega, k + 1, by omega, rfl, hok hbk, rfl⟩
 have k2 : decide ((k : Int) < 3) = false := decide_eq_false (by omega)
 rw [hb 0 (by omega), hb 1 (by omega), hb 2 (by omega), if_neg (by simp)] at hx
 simp only [go_sem, hA, zhi, k2]
 refine ze [0, 1, 5, 6, 10] [6004] [] (fun y σ => ∃ k : Nat, k ≤ 3 ∧ y = 3 - k ∧ σ = zhi fs l q c 10 k) 3 ⟨0, by omega, by omega, by simp only [go_sem, zhi]⟩ ?_
 clear hb hk3 k2 hk
 rintro y σ ⟨k, hk, rfl, rfl⟩
 refine goC 400 ?_
 by_cases hk3 : k < 3
 ·have k2 : decide ((k : Int) < 3) = true := decide_eq_true (by omega)
  simp only [go_sem, hA, zhi, k2]
  refine zc 400 (zox c k) rfl (by simp only [go_sem, avC]) (by simp only [go_sem, hA]) ?_
  simp only [go_sem, hA]
  refine zc 400 (zoz (zaE c k) (zpD htc.2.1 htc.2.2.1 htc.2.2.2 k)) rfl (by simp only [go_sem]) (by simp only [go_sem, hA]) ?_
  simp only [go_sem, hA]
  exact ⟨by unfold zf; omega, 3 - (k + 1), by omega, k + 1, by omega, rfl, rfl⟩
 have k2 : decide ((k : Int) < 3) = false := decide_eq_false (by omega)
 rw [if_neg (by simp [hx])] at hfe
 have hfind := zzb fs c.path hfs
 have last : ∀ h0 : ¬ (0 < q ∧ leS c.path (atC l (q - 1)).path), zfu fs l q = if (zcL fs c.path).2 then 7 else 0 := fun h0 => by rw [hfe, if_neg h0]
 by_cases hq0 : 0 < q
 ·have k3 : decide ((0 : Int) < (q : Int)) = true := decide_eq_true (by omega)
  have hq1 : ((q : Int) - 1).toNat = q - 1 := by omega
  have hat1 := zcV l (q - 1) (by omega)
  have hin : zf ((q : Int) - 1) := by unfold zf; omega
  rw [hat1, zqv] at hfe last
  cases hls : ltS l[q - 1].path c.path with
  | false =>
   have hls' : Op.bytesLess l[q - 1].path.data.toList c.path.data.toList = false := hls
   rw [hls, if_pos ⟨hq0, rfl⟩] at hfe
   rw [zC hf hlt (by rw [hfe]; decide), hfe] at hr0
   simp only [go_sem, hA, zhi, k2, k3, zq, hq1, zbP l (q - 1) (by omega), zgs, hls', hr0, mixed, Tryz.results37]
   exact ⟨hin, ⟨by omega, by omega⟩, by show chk _ _ _ = true; kernel_rfl⟩
  | true =>
   have hls' : Op.bytesLess l[q - 1].path.data.toList c.path.data.toList = true := hls
   have hfe' := last (by rw [hls]; simp)
   simp only [go_sem, hA, zhi, k2, k3, zq, hq1, zbP l (q - 1) (by omega), zgs, hls', mixed]
   refine ⟨hin, ⟨by omega, by omega⟩, by show chk _ _ _ = true; kernel_rfl, ?_⟩
   refine zc 400 hfind rfl (by simp only [go_sem]) (by simp only [go_sem, hA]) ?_
   cases hh : (zcL fs c.path).2 with
   | true =>
    rw [hh, if_pos rfl] at hfe'
    rw [zC hf hlt (by rw [hfe']; decide), hfe'] at hr0
    simp only [go_sem, hA, hr0, Tryz.results37]
   | false =>
    rw [hh, if_neg (by simp)] at hfe'
    simp only [go_sem, hA]
    exact ⟨by unfold zf; omega, l.length - (q + 1), by omega, q + 1, by omega, rfl, zr hf hfe', rfl⟩
 ·have k3 : decide ((0 : Int) < (q : Int)) = false := decide_eq_false (by omega)
  have hfe' := last fun h => hq0 h.1
  simp only [go_sem, hA, zhi, k2, k3, undef, mixed]
  refine ⟨by show chk _ _ _ = true; kernel_rfl, ?_⟩
  refine zc 400 hfind rfl (by simp only [go_sem]) (by simp only [go_sem, hA]) ?_
  cases hh : (zcL fs c.path).2 with
  | true =>
   rw [hh, if_pos rfl] at hfe'
   rw [zC hf hlt (by rw [hfe']; decide), hfe'] at hr0
   simp only [go_sem, hA, hr0, Tryz.results37]
  | false =>
   rw [hh, if_neg (by simp)] at hfe'
   simp only [go_sem, hA]
   exact ⟨by unfold zf; omega, l.length - (q + 1), by omega, q + 1, by omega, rfl, zr hf hfe', rfl⟩
abbrev zvY (m : Mg) (q : Nat) : St := ⟨[(1, .box 0 0), (3, .d (.raw (.int .i64 q)))], [(0, some (.cell 26 [.d (.sl (zbd m.ms)), .d (.sl (zW m.fs)), .d (.sl (zaI m.ts))]))], []⟩
abbrev zvX (m : Mg) (q : Nat) : St := ⟨[(1, .box 0 0), (6, .d (.raw (.int .i64 q)))], [(0, some (.cell 26 [.d (.sl (zbd m.ms)), .d (.sl (zW m.fs)), .d (.sl (zaI m.ts))]))], []⟩
structure Mg.Slim (m : Mg) : Prop where
 fine : m.Fine
 fp : ∀ x ∈ m.fs, x.path.size ≤ 1099511627776
 tp : ∀ x ∈ m.ts, x.path.size ≤ 1099511627776
theorem zwb (m : Mg) (hm : m.Slim) : Con Tryz.prog 10 [avG m] (.d (.raw (.int .i64 (zG m)))) := by
 rw [← zxl]
 refine zj Tryz.func10 rfl (by decide +kernel) rfl rfl (by simp [Tryz.ntmps10]) fun A hA => ?_
 rw [Tryz.ntmps10] at hA
 have hml := hm.fine.ml
 have hfl := hm.fine.fl
 have hr0 : zuj m = if ¬ zl (zfX m.ms) m.ms.length = 0 then zl (zfX m.ms) m.ms.length else if ¬ zdV m.fs = 0 then zdV m.fs else if m.fs.any (fun x => zcK x.path) then 9 else zih m.fs m.ts := rfl
 refine goC 400 ?_
 simp only [go_sem, hA, avG]
 refine ze [1, 3] [0] [] (fun y σ => ∃ q : Nat, q ≤ m.ms.length ∧ y = m.ms.length - q ∧ zl (zfX m.ms) q = 0 ∧ σ = zvY m q) m.ms.length ⟨0, by omega, by omega, rfl, by simp only [go_sem, zvY]⟩ ?_
 rintro y σ ⟨q, hq, rfl, hf, rfl⟩
 refine goC 400 ?_
 by_cases hlt : q < m.ms.length
 ·have k1 : decide ((q : Int) < (m.ms.length : Int)) = true := decide_eq_true (by omega)
  have hat := zcw m.ms q hlt
  have hfe : zfX m.ms q = if ¬ zae m.ms[q] = 0 then zae m.ms[q] else if 0 < q ∧ leS m.ms[q].label (atM m.ms (q - 1)).label then 10 else 0 := by unfold zfX; rw [hat]
  simp only [go_sem, hA, zvY, zv, k1, Int.toNat_natCast, zbm m.ms q hlt, zfh]
  refine ⟨⟨by omega, by omega⟩, ?_⟩
  refine zc 400 (zwe m.ms[q] (hm.fine.bd _ (List.getElem_mem hlt))) rfl (by simp only [go_sem, avM]) (by simp only [go_sem, hA]) ?_
  by_cases hp : zae m.ms[q] = 0
  case neg =>
   have g1 : (decide ¬ zae m.ms[q] = 0) = true := decide_eq_true hp
   rw [if_pos hp] at hfe
   rw [zC hf hlt (by rw [hfe]; exact hp), hfe, if_pos hp] at hr0
   simp only [go_sem, hA, g1, hr0, Tryz.results10]
  have g1 : (decide ¬ zae m.ms[q] = 0) = false := by simp [hp]
  rw [if_neg (by simp [hp])] at hfe
  by_cases hq0 : 0 < q
  ·have k2 : decide ((0 : Int) < (q : Int)) = true := decide_eq_true (by omega)
   have hq1 : ((q : Int) - 1).toNat = q - 1 := by omega
   have hat1 := zcw m.ms (q - 1) (by omega)
   have hin : zf ((q : Int) - 1) := by unfold zf; omega
   rw [hat1, zqv] at hfe
   cases hls : ltS m.ms[q - 1].label m.ms[q].label with
   | false =>
    have hls' : Op.bytesLess m.ms[q - 1].label.data.toList m.ms[q].label.data.toList = false := hls
    rw [hls, if_pos ⟨hq0, rfl⟩] at hfe
    rw [zC hf hlt (by rw [hfe]; decide), hfe] at hr0
    simp only [go_sem, hA, g1, k2, zv, hq1, Int.toNat_natCast, zbm m.ms (q - 1) (by omega), zbm m.ms q hlt, zfh, hls', hr0, mixed, Tryz.results10]
    exact ⟨hin, ⟨by omega, by omega⟩, ⟨by omega, by omega⟩, by show chk _ _ _ = true; kernel_rfl, by rfl⟩
   | true =>
    have hls' : Op.bytesLess m.ms[q - 1].label.data.toList m.ms[q].label.data.toList = true := hls
    rw [hls, if_neg (by simp)] at hfe
    simp only [go_sem, hA, g1, k2, zv, hq1, Int.toNat_natCast, zbm m.ms (q - 1) (by omega), zbm m.ms q hlt, zfh, hls', mixed]
    exact ⟨hin, ⟨by omega, by omega⟩, ⟨by omega, by omega⟩, by show chk _ _ _ = true; kernel_rfl, by unfold zf; omega, m.ms.length - (q + 1), by omega, q + 1, by omega, rfl, zr hf hfe, rfl⟩
  ·have k2 : decide ((0 : Int) < (q : Int)) = false := decide_eq_false (by omega)
   rw [if_neg fun h => hq0 h.1] at hfe
   simp only [go_sem, hA, g1, k2, undef, mixed]
   exact ⟨by show chk _ _ _ = true; kernel_rfl, by unfold zf; omega, m.ms.length - (q + 1), by omega, q + 1, by omega, rfl, zr hf hfe, rfl⟩
 have k1 : decide ((q : Int) < (m.ms.length : Int)) = false := decide_eq_false (by omega)
 obtain rfl : q = m.ms.length := by omega
 rw [if_neg (by simp [hf])] at hr0
 simp only [go_sem, hA, zvY, k1, zv]
 have htr := zBW m.fs hfl fun x hx => (hm.fine.fp x hx).2
 rw [← zjk] at htr
 refine zc 400 htr rfl (by simp only [go_sem]) (by simp only [go_sem, hA]) ?_
 by_cases ht : zdV m.fs = 0
 case neg =>
  have g1 : (decide ¬ zdV m.fs = 0) = true := decide_eq_true ht
  rw [if_pos ht] at hr0
  simp only [go_sem, hA, g1, hr0, Tryz.results10]
 have g1 : (decide ¬ zdV m.fs = 0) = false := by simp [ht]
 rw [if_neg (by simp [ht])] at hr0
 simp only [go_sem, hA, g1]
 refine ze [1, 6] [0] [] (fun y σ => ∃ q : Nat, q ≤ m.fs.length ∧ y = m.fs.length - q ∧ ((m.fs.take q).any fun x => zcK x.path) = false ∧ σ = zvX m q) m.fs.length ⟨0, by omega, by omega, rfl, by simp only [go_sem, zvX]⟩ ?_
 clear hf hlt k1 g1
 rintro y σ ⟨q, hq, rfl, hf, rfl⟩
 refine goC 400 ?_
 by_cases hlt : q < m.fs.length
 ·have k1 : decide ((q : Int) < (m.fs.length : Int)) = true := decide_eq_true (by omega)
  simp only [go_sem, hA, zvX, zh, k1, Int.toNat_natCast, zam m.fs q hlt]
  refine ⟨⟨by omega, by omega⟩, ?_⟩
  refine zc 400 (zoy m.fs[q].path (hm.fp _ (List.getElem_mem hlt))) rfl (by simp only [go_sem]) (by simp only [go_sem, hA]) ?_
  cases hb : zcK m.fs[q].path with
  | true =>
   have ha : (m.fs.any fun x => zcK x.path) = true := List.any_eq_true.2 ⟨_, List.getElem_mem hlt, hb⟩
   rw [ha, if_pos rfl] at hr0
   simp only [go_sem, hA, hr0, Tryz.results10]
  | false =>
   simp only [go_sem, hA]
   exact ⟨by unfold zf; omega, m.fs.length - (q + 1), by omega, q + 1, by omega, rfl, zbq hlt hf hb, rfl⟩
 have k1 : decide ((q : Int) < (m.fs.length : Int)) = false := decide_eq_false (by omega)
 obtain rfl : q = m.fs.length := by omega
 rw [List.take_length] at hf
 rw [hf, if_neg (by simp)] at hr0
 simp only [go_sem, hA, zvX, zh, k1]
 refine zc 400 (zzd m.fs m.ts hfl fun c hc => ⟨hm.tp c hc, (hm.fine.tp c hc).2⟩) rfl (by simp only [go_sem]) (by simp only [go_sem, hA]) ?_
 simp only [go_sem, hA, hr0, Tryz.results10]
end
section
open Go Go.RowKit
abbrev zvZ (k : Int) (n m : ByteArray) (i d : Int) (s : List Ex) (c q : Nat) : St := ⟨[(1, .box 0 0), (3, .d (.raw (.int .i64 c))), (4, .d (.raw (.int .i64 q)))], [(0, some (.cell 105 (zns k n m i d s)))], []⟩
theorem rConf_step (N : Nat) (ih : ∀ t : Ex, zb t < N → zb t ≤ 1048576 → Con Tryz.prog 92 [avE t] (.d (.raw (.int .i64 (confE t)))))
  (k : Int) (n m : ByteArray) (i d : Int) (s : List Ex) (hN : zb (.mk k n m i d s) < N + 1) (hb : zb (.mk k n m i d s) ≤ 1048576) : Con Tryz.prog 92 [avE (.mk k n m i d s)] (.d (.raw (.int .i64 (confE (.mk k n m i d s))))) := by
 have hle := ziR (.mk k n m i d s)
 rw [zb] at hN hb hle
 rw [confE] at hle
 have hlen := zI s
 refine zj Tryz.func92 rfl (by decide +kernel) rfl (by simp only [AV.closed, zz, avE, zbC, Bool.and_self]) (by simp [Tryz.ntmps92]) fun A hA => ?_
 rw [Tryz.ntmps92] at hA
 refine goC 300 ?_
 obtain ⟨c0, hc0⟩ : ∃ c0 : Nat, (if k = 15 then 1 else 0) = c0 := ⟨_, rfl⟩
 have hr : confE (.mk k n m i d s) = c0 + zbe s := by rw [confE, hc0]
 rw [hc0] at hle
 have hc1 : (k = 15 ∧ c0 = 1) ∨ (¬ k = 15 ∧ c0 = 0) := by
  by_cases hk : k = 15
  ·rw [if_pos hk] at hc0; exact .inl ⟨hk, hc0.symm⟩
  ·rw [if_neg hk] at hc0; exact .inr ⟨hk, hc0.symm⟩
 rcases hc1 with ⟨hk, rfl⟩ | ⟨hk, rfl⟩
 case' inl => have g0 : decide (k = 15) = true := decide_eq_true hk
 case' inr => have g0 : decide (k = 15) = false := decide_eq_false hk
 all_goals
  simp only [go_sem, hA, avE, zcc, g0]
  refine ze [1, 3, 4] [0] [] (fun x σ => ∃ q : Nat, q ≤ s.length ∧ x = s.length - q ∧ σ = zvZ k n m i d s (_ + zbe (s.take q)) q) s.length ⟨0, by omega, by omega, by (simp only [go_sem, zvZ, List.take_zero, zbe]) <;> rfl⟩ ?_
  rintro x σ ⟨q, hq, rfl, rfl⟩
  refine goC 300 ?_
  by_cases hlt : q < s.length
  ·have g1 : decide ((q : Int) < (s.length : Int)) = true := decide_eq_true (by omega)
   have hn1 := zaP s q hlt
   have hc := ih s[q] (by omega) (by omega)
   have hts := zld s q hlt
   have htl := zoh s (q + 1)
   simp only [go_sem, hA, zvZ, zm, g1, Int.toNat_natCast, zck s q hlt]
   refine ⟨⟨by omega, by omega⟩, ?_⟩
   refine zc 300 hc rfl (by simp only [go_sem, zw]) (by simp only [go_sem, hA]) ?_
   simp only [go_sem, hA]
   refine ⟨by unfold zf; omega, by unfold zf; omega, s.length - (q + 1), by omega, q + 1, by omega, rfl, ?_⟩
   rw [hts]
   simp only [Int.natCast_add, Int.add_assoc]
   rfl
  ·have g1 : decide ((q : Int) < (s.length : Int)) = false := decide_eq_false (by omega)
   obtain rfl : q = s.length := by omega
   rw [hr]
   simp only [go_sem, hA, zvZ, zm, g1, List.take_length, Tryz.results92]
theorem zBZ (N : Nat) : ∀ t : Ex, zb t < N → zb t ≤ 1048576 → Con Tryz.prog 92 [avE t] (.d (.raw (.int .i64 (confE t)))) := by
 induction N with
 | zero => intro t h; omega
 | succ N ih => intro t h hb; cases t; exact rConf_step N ih _ _ _ _ _ _ h hb
theorem zdI (a b : List Sq) : zaq (a ++ b) = zaq a ++ zaq b := by simp [zaq]
theorem ziO (s : ByteArray) (k i j : Int) : [[D.raw (Value.string s), D.raw (Value.int IntKind.i64 k), D.raw (Value.int IntKind.i64 i), D.raw (Value.int IntKind.i64 j)]] = zaq [⟨s, k, i, j⟩] := rfl
theorem zfM (l : List Sq) : ∀ r ∈ zaq l, r.length = 4 := fun r hr => (zpi l r hr).1
theorem zxO (s : ByteArray) (i : Int) (l : List Sq) : zdE s i 0 l = l := by simp [zdE]
theorem zxP (s : ByteArray) (i : Int) (n : Nat) (l : List Sq) : zdE s i (n + 1) l = zdE s i n l ++ [⟨s, 2, i, n⟩] := by simp [zdE, List.range_succ]
theorem zzG (s : ByteArray) (i : Int) (n : Nat) (l : List Sq) : (zdE s i n l).length = l.length + n := by simp [zdE]
theorem zux (q : Sq) (l : List Sq) : zbY true q l = l ++ [q] := rfl
theorem zuy (q : Sq) (l : List Sq) : zbY false q l = l := rfl
theorem zro (x : Mo) (q : Nat) (h : q < x.decls.length) : zD x (q + 1) = zbI x.label (zD x q) x.decls[q] := by
 unfold zD
 rw [List.take_succ_eq_append_getElem h, List.foldl_append]; rfl
def zeI (d e : Dc) : Bool := decide (d.names.length = 1) && decide (e.names = d.names)
abbrev zwn (x : Mo) : Nat × Option Blk := (0, some (.cell 56 [.d (.raw (.string x.label)), .d (.sl (zt x.uses)), .d (.sl (zaW x.decls))]))
abbrev zAo (r : Nat) (d : Dc) : Nat × Option Blk := (r, some (.cell 107 [.d (.raw (.int .i64 d.id)), .d (.raw (.int .i64 d.kind)), .d (.raw (.bool d.pub)), .d (.sl (zt d.names)), .d (.raw (.bool d.doubt)), .d (.raw (.int .i64 d.body.kind)), .d (.raw (.string d.body.name)), .d (.raw (.string d.body.more)), .d (.raw (.int .i64 d.body.int)), .d (.raw (.int .i64 d.body.den)), .d (.sl (zaY d.body.sub))]))
abbrev zhG (x : Mo) (o : List Sq) (q : Nat) : St := ⟨[(1, .box 0 0), (3, .grow 1000 (zaq o)), (4, .d (.raw (.int .i64 q)))], [zwn x], [(1000, some ⟨4, 60, o.length, none⟩)]⟩
abbrev zpT (x : Mo) (d : Dc) (o : List Sq) (q k : Nat) : St := ⟨[(1, .box 0 0), (3, .grow 1000 (zaq o)), (4, .d (.raw (.int .i64 q))), (5, .box 7005 0), (6, .d (.raw (.int .i64 k)))], [zwn x, zAo 7005 d], [(1000, some ⟨4, 60, o.length, none⟩)]⟩
abbrev zfv (x : Mo) (d : Dc) (o : List Sq) (b : Bool) (q k : Nat) : St := ⟨[(1, .box 0 0), (3, .grow 1000 (zaq o)), (4, .d (.raw (.int .i64 q))), (5, .box 7005 0), (7, .d (.raw (.bool b))), (8, .d (.raw (.int .i64 k)))], [zwn x, zAo 7005 d], [(1000, some ⟨4, 60, o.length, none⟩)]⟩
theorem zoQ {x : Mo} (h : zae x = 0) {d : Dc} (hd : d ∈ x.decls) : d.names.length ≤ 3 := by
 have := (znz (zvC h hd)).2.2.2.1
 unfold zak at this
 split at this
 ·cases this
 ·omega
theorem zzi (x : Mo) (hb : ∀ d ∈ x.decls, zb d.body ≤ 524288) : Con Tryz.prog 39 [avM x] (.d (.sl (zaq (zbs x)))) := by
 refine zj Tryz.func39 rfl (by decide +kernel) rfl rfl (by simp [Tryz.ntmps39]) fun A hA => ?_
 rw [Tryz.ntmps39] at hA
 refine goC 400 ?_
 simp only [go_sem, hA, avM]
 refine zc 400 (zwe x hb) rfl (by simp only [go_sem, avM]) (by simp only [go_sem, hA]) ?_
 by_cases h0 : zae x = 0
 case neg =>
  have g0 : (decide ¬ zae x = 0) = true := decide_eq_true h0
  have hr : zbs x = [] := if_neg h0
  have he : zaq [] = [] := rfl
  simp only [go_sem, hA, g0, hr, he, Tryz.results39]
 have g0 : (decide ¬ zae x = 0) = false := by simp [h0]
 have hr : zbs x = (zD x x.decls.length).1 := if_pos h0
 have hd100 := (zhR h0).2.1
 rw [hr]
 simp only [go_sem, hA, g0]
 refine ze [1, 3, 4] [0] [1000] (fun y σ => ∃ (q : Nat) (o : List Sq), q ≤ x.decls.length ∧ y = x.decls.length - q ∧ (zD x q).1 = o ∧ σ = zhG x o q) x.decls.length ⟨0, [], by omega, by omega, rfl, by simp only [go_sem, zhG]; rfl⟩ ?_
 rintro y σ ⟨q, o, hq, rfl, ho, rfl⟩
 refine goC 400 ?_
 by_cases hlt : q < x.decls.length
 case neg =>
  have k1 : decide ((q : Int) < (x.decls.length : Int)) = false := decide_eq_false (by omega)
  obtain rfl : q = x.decls.length := by omega
  rw [ho]
  simp only [go_sem, hA, zhG, zi, k1, Tryz.results39]
 have k1 : decide ((q : Int) < (x.decls.length : Int)) = true := decide_eq_true (by omega)
 have hol : o.length ≤ 52429200 := by
  have h1 := zlG x hb q
  rw [ho] at h1
  have h2 : q * 524292 ≤ 100 * 524292 := Nat.mul_le_mul_right _ (by omega)
  omega
 have hmem := List.getElem_mem hlt
 have hbd := hb _ hmem
 have hcl := zAx x q x.decls[q]
 have hsu := zro x q hlt
 have hnf := zoQ h0 hmem
 obtain ⟨d, hd⟩ : ∃ d, x.decls[q] = d := ⟨_, rfl⟩
 rw [hd] at hbd hcl hsu hnf
 have hcf := ziR d.body
 have hcon := zBZ (zb d.body + 1) d.body (by omega) (by omega)
 have h1s : (zD x (q + 1)).1 = zbY ((x.decls.take q).any (zeI d)) ⟨x.label, 4, d.id, 0⟩ (zbY d.doubt ⟨x.label, 3, d.id, 0⟩ (zdE x.label d.id (confE d.body) (zbY (decide (d.names.length = 3)) ⟨x.label, 1, d.id, 0⟩ o))) := by
  rw [hsu]
  unfold zbI
  simp only
  rw [hcl, ho]
  rfl
 have kn : decide (d.names.length = 3) = decide ((d.names.length : Int) = 3) := decide_eq_decide.2 (by omega)
 rw [kn] at h1s
 simp only [go_sem, hA, zhG, k1, zi, Int.toNat_natCast, zai x.decls q hlt, hd, zdm, za]
 refine ⟨⟨by omega, by omega⟩, ?_⟩
 cases k3 : decide ((d.names.length : Int) = 3)
 all_goals
  rw [k3] at h1s
  simp only [go_sem, hA]
 rotate_left
 refine ⟨⟨zB _, zcC _ _ _ _, zfM _, by rw [zB]; omega⟩, ?_⟩
 all_goals
  generalize ho1 : zbY _ ⟨x.label, 1, d.id, 0⟩ o = o1 at h1s
  have ho1l : o1.length ≤ o.length + 1 := by rw [← ho1]; simp [zbY]
  refine ze [1, 3, 4, 5, 6] [0, 7005] [1000] (fun y σ => ∃ k : Nat, k ≤ confE d.body ∧ y = confE d.body - k ∧ σ = zpT x d (zdE x.label d.id k o1) q k) (confE d.body) ⟨0, by omega, by omega, by (simp only [go_sem, zpT, zxO, ← ho1, zux, zuy, zdI, ← ziO, List.length_append, List.length_cons, List.length_nil]) <;> rfl⟩ ?_
  clear ho1
  rintro y σ ⟨k, hk, rfl, rfl⟩
  refine goC 400 ?_
  have hml := zzG x.label d.id k o1
  by_cases hk1 : k < confE d.body
  ·have k4 : decide ((k : Int) < (confE d.body : Int)) = true := decide_eq_true (by omega)
   simp only [go_sem, hA, zpT]
   refine zc 400 hcon rfl (by simp only [go_sem, zw]) (by simp only [go_sem, hA]) ?_
   simp only [go_sem, hA, k4]
   refine ⟨⟨zB _, zcC _ _ _ _, zfM _, by rw [zB]; omega⟩, by unfold zf; omega, confE d.body - (k + 1), by omega, k + 1, by omega, rfl, ?_⟩
   rw [zxP]
   simp only [zdI, ← ziO, List.length_append, List.length_cons, List.length_nil]
   rfl
  have k4 : decide ((k : Int) < (confE d.body : Int)) = false := decide_eq_false (by omega)
  obtain rfl : k = confE d.body := by omega
  generalize zdE x.label d.id (confE d.body) o1 = o2 at hml h1s
  simp only [go_sem, hA, zpT]
  refine zc 400 hcon rfl (by simp only [go_sem, zw]) (by simp only [go_sem, hA]) ?_
  cases k5 : d.doubt
  all_goals
   rw [k5] at h1s
   simp only [go_sem, hA, k4, k5]
  rotate_left
  refine ⟨⟨zB _, zcC _ _ _ _, zfM _, by rw [zB]; omega⟩, ?_⟩
  all_goals
   generalize ho3 : zbY _ ⟨x.label, 3, d.id, 0⟩ o2 = o3 at h1s
   have ho3l : o3.length ≤ o2.length + 1 := by rw [← ho3]; simp [zbY]
   refine ze [1, 3, 4, 5, 7, 8] [0, 7005] [1000] (fun y σ => ∃ (k : Nat) (b : Bool), k ≤ q ∧ y = q - k ∧ (x.decls.take k).any (zeI d) = b ∧ σ = zfv x d o3 b q k) q ⟨0, false, by omega, by omega, rfl, by (simp only [go_sem, zfv, zwn, zAo, ← ho3, zux, zuy, zdI, ← ziO, List.length_append, List.length_cons, List.length_nil, k5]) <;> rfl⟩ ?_
   clear ho3
   rintro y σ ⟨k, b, hk, rfl, hb2, rfl⟩
   refine goC 400 ?_
   by_cases hk2 : k < q
   ·have k6 : decide ((k : Int) < (q : Int)) = true := decide_eq_true (by omega)
    have hkl : k < x.decls.length := by omega
    have hstep : (x.decls.take (k + 1)).any (zeI d) = (b || zeI d x.decls[k]) := by
     rw [List.take_succ_eq_append_getElem hkl, List.any_append, hb2]
     simp
    have fin : ∀ c : Bool, (x.decls.take (k + 1)).any (zeI d) = c → ∃ m, m < q - k ∧ ∃ (k' : Nat) (b : Bool), k' ≤ q ∧ m = q - k' ∧ (x.decls.take k').any (zeI d) = b ∧ zfv x d o3 c q (k + 1) = zfv x d o3 b q k' := fun c h => ⟨q - (k + 1), by omega, k + 1, c, by omega, rfl, h, rfl⟩
    cases b with
    | true =>
     rw [Bool.true_or] at hstep
     simp only [go_sem, hA, zfv, k6, undef, mixed]
     exact ⟨by show chk _ _ _ = true; kernel_rfl, by unfold zf; omega, fin _ hstep⟩
    | false =>
     rw [Bool.false_or] at hstep
     by_cases hn1 : d.names.length = 1
     ·have k7 : decide ((d.names.length : Int) = 1) = true := decide_eq_true (by omega)
      obtain ⟨e, he⟩ : ∃ e, x.decls[k] = e := ⟨_, rfl⟩
      have hen := zoQ h0 (List.getElem_mem hkl)
      rw [he] at hstep hen
      have hce : zeI d e = zeP e.names d.names := by
       unfold zeI
       rw [decide_eq_true hn1, Bool.true_and, Bool.eq_iff_iff, decide_eq_true_eq, zgB]
      rw [hce] at hstep
      simp only [go_sem, hA, zfv, k6, k7, zi, Int.toNat_natCast, zai x.decls k hkl, he, zdm, za, mixed]
      refine ⟨⟨by omega, by omega⟩, ?_⟩
      refine zbk 400 (zme e.names d.names (by omega)) rfl (by simp only [go_sem]) (by simp only [go_sem, hA]) ?_
      simp only [go_sem, hA]
      exact ⟨by show chk _ _ _ = true; kernel_rfl, by unfold zf; omega, fin _ hstep⟩
     ·have k7 : decide ((d.names.length : Int) = 1) = false := decide_eq_false (by omega)
      have hce : zeI d x.decls[k] = false := by unfold zeI; rw [decide_eq_false hn1, Bool.false_and]
      rw [hce] at hstep
      simp only [go_sem, hA, zfv, k6, k7, za, undef, mixed]
      exact ⟨by show chk _ _ _ = true; kernel_rfl, by unfold zf; omega, fin _ hstep⟩
   have k6 : decide ((k : Int) < (q : Int)) = false := decide_eq_false (by omega)
   obtain rfl : k = q := by omega
   rw [hb2] at h1s
   have fin2 : ∀ o4, (zD x (k + 1)).1 = o4 → ∃ m, m < x.decls.length - k ∧ ∃ (q' : Nat) (o : List Sq), q' ≤ x.decls.length ∧ m = x.decls.length - q' ∧ (zD x q').1 = o ∧ zhG x o4 (k + 1) = zhG x o q' := fun o4 h => ⟨x.decls.length - (k + 1), by omega, k + 1, o4, by omega, rfl, h, rfl⟩
   cases b with
   | true =>
    rw [zux] at h1s
    simp only [go_sem, hA, zfv, k6]
    refine ⟨⟨zB _, zcC _ _ _ _, zfM _, by rw [zB]; omega⟩, by unfold zf; omega, ?_⟩
    have := fin2 _ h1s
    simp only [zhG, zdI, ← ziO, List.length_append, List.length_cons, List.length_nil] at this
    exact this
   | false =>
    rw [zuy] at h1s
    simp only [go_sem, hA, zfv, k6]
    exact ⟨by unfold zf; omega, fin2 _ h1s⟩
abbrev zpS (m : Mg) (q : Nat) : St := ⟨[(1, .box 0 0), (3, .grow 1000 (zdw m q)), (4, .d (.raw (.int .i64 q)))], [(0, some (.cell 26 [.d (.sl (zbd m.ms)), .d (.sl (zW m.fs)), .d (.sl (zaI m.ts))]))], [(1000, some ⟨4, 60, (zdw m q).length, none⟩)]⟩
abbrev zpR (m : Mg) (q : Nat) : St := ⟨[(1, .box 0 0), (3, .grow 1000 (zcB m q)), (5, .d (.raw (.int .i64 q)))], [(0, some (.cell 26 [.d (.sl (zbd m.ms)), .d (.sl (zW m.fs)), .d (.sl (zaI m.ts))]))], [(1000, some ⟨4, 60, (zcB m q).length, none⟩)]⟩
theorem zBX (m : Mg) (hm : m.Slim) (htl : m.ts.length ≤ 1048576) : Con Tryz.prog 13 [avG m] (.d (.sl (zkr m))) := by
 refine zj Tryz.func13 rfl (by decide +kernel) rfl rfl (by simp [Tryz.ntmps13]) fun A hA => ?_
 rw [Tryz.ntmps13] at hA
 have hT := zju m hm.fine.ml
 have hml := hm.fine.ml
 have hr4 : ∀ x ∈ m.ms, zK 4 (zdz x) := fun x _ => zjM x
 refine goC 400 ?_
 simp only [go_sem, hA, avG]
 refine zc 400 (zwb m hm) rfl (by simp only [go_sem, avG]) (by simp only [go_sem, hA]) ?_
 by_cases hx : zG m = 0
 case neg =>
  have g : (decide ¬ zG m = 0) = true := by simp [hx]
  have hr : zkr m = [] := if_neg hx
  simp only [go_sem, hA, g, hr, Tryz.results13]
 have g : (decide ¬ zG m = 0) = false := by simp [hx]
 have hr : zkr m = zks m := if_pos hx
 simp only [go_sem, hA, g]
 refine ze [1, 3, 4] [0] [1000] (fun y σ => ∃ q : Nat, q ≤ m.ms.length ∧ y = m.ms.length - q ∧ σ = zpS m q) m.ms.length ⟨0, by omega, by omega, by (simp only [go_sem, zpS]) <;> rfl⟩ ?_
 rintro y σ ⟨q, hq, rfl, rfl⟩
 refine goC 400 ?_
 have hT0 := hT q
 by_cases hlt : q < m.ms.length
 ·have k1 : decide ((q : Int) < (m.ms.length : Int)) = true := decide_eq_true (by omega)
  have hc := zzi m.ms[q] (hm.fine.bd _ (List.getElem_mem hlt))
  rw [← zgT] at hc
  simp only [go_sem, hA, zpS, k1, zv, Int.toNat_natCast, zbm m.ms q hlt, zfh]
  refine ⟨⟨by omega, by omega⟩, ?_⟩
  refine zc 400 hc rfl (by simp only [go_sem, avM]) (by simp only [go_sem, hA]) ?_
  simp only [go_sem, hA]
  have hT1 := hT (q + 1)
  rw [zfA m q hlt, List.length_append] at hT1
  exact ⟨⟨hr4 _ (List.getElem_mem hlt), zjt hr4 q, by omega⟩, by unfold zf; omega, m.ms.length - (q + 1), by omega, q + 1, by omega, rfl, by rw [zfA m q hlt, List.length_append]; rfl⟩
 have k1 : decide ((q : Int) < (m.ms.length : Int)) = false := decide_eq_false (by omega)
 obtain rfl : q = m.ms.length := by omega
 simp only [go_sem, hA, zpS, zv, k1]
 refine ze [1, 3, 5] [0] [1000] (fun y σ => ∃ q : Nat, q ≤ m.ts.length ∧ y = m.ts.length - q ∧ σ = zpR m q) m.ts.length ⟨0, by omega, by omega, by (simp only [go_sem, zpR, zjX]) <;> rfl⟩ ?_
 clear hlt k1 hq
 rintro y σ ⟨q, hq, rfl, rfl⟩
 refine goC 400 ?_
 by_cases hlt : q < m.ts.length
 ·have k1 : decide ((q : Int) < (m.ts.length : Int)) = true := decide_eq_true (by omega)
  have hTl := zhc m q
  simp only [go_sem, hA, zpR, k1, zq, Int.toNat_natCast, zbP m.ts q hlt, zgs]
  exact ⟨⟨by omega, by omega⟩, ⟨zcC _ _ _ _, zlw hr4 q, by omega⟩, by unfold zf; omega, m.ts.length - (q + 1), by omega, q + 1, by omega, rfl, by rw [zjY m q hlt, List.length_append]; rfl⟩
 have k1 : decide ((q : Int) < (m.ts.length : Int)) = false := decide_eq_false (by omega)
 obtain rfl : q = m.ts.length := by omega
 simp only [go_sem, hA, zpR, zq, k1, hr, zks, Tryz.results13]
end
section
open Go Go.RowKit
theorem zvk {m : Mg} (h : zfG m = false) : m.Slim := by
 have hg := zna h
 simp only [zfG, Bool.or_eq_false_iff, decide_eq_false_iff_not] at h
 obtain ⟨h1, h2, h3, h4, h5⟩ := h
 simp only [zeF, Bool.or_eq_false_iff, decide_eq_false_iff_not] at h2
 refine ⟨hg.fine, fun x hx => ?_, fun x hx => ?_⟩
 ·have := zdR h2.2 hx
  simp only [zgP, Bool.or_eq_false_iff, decide_eq_false_iff_not] at this
  omega
 ·have := zdR h5 hx
  simp only [zgO, Bool.or_eq_false_iff, decide_eq_false_iff_not] at this
  omega
theorem zsJ : ∀ l : List Mo, (l.flatMap zbs).length ≤ l.length * 40300
 | [] => by simp
 | x :: l => by
  have h1 := zsJ l
  have h2 : (zbs x).length ≤ 40300 := by
   unfold zbs
   split
   ·exact zjL (by assumption)
   ·simp
  rw [List.flatMap_cons, List.length_append, List.length_cons, Nat.succ_mul]
  omega
theorem zxS {m : Mg} (h : zfG m = false) : (zmQ m).length ≤ 1048576 := by
 simp only [zfG, Bool.or_eq_false_iff, decide_eq_false_iff_not] at h
 obtain ⟨h1, h2, h3, h4, h5⟩ := h
 have hf := zsJ m.ms
 have hm := Nat.mul_le_mul_right 40300 (show m.ms.length ≤ 4 by omega)
 unfold zmQ
 split
 ·unfold zaG
  rw [List.length_append, List.length_map]
  omega
 ·simp
theorem zvb (m : Mg) (hb : ∀ x ∈ m.ms, ∀ d ∈ x.decls, zb d.body ≤ 1048576) : Con Tryz.prog 3 [avG m] (.d (.raw (.bool true))) := by
 refine zj Tryz.func3 rfl (by decide +kernel) rfl rfl (by simp [Tryz.ntmps3]) fun A hA => ?_
 rw [Tryz.ntmps3] at hA
 refine goC 400 ?_
 simp only [go_sem, hA, avG]
 refine zc 400 (zxx m hb) rfl (by simp only [go_sem, avG]) (by simp only [go_sem, hA]) ?_
 cases h1 : zfG m with
 | true =>
  simp only [go_sem]
  refine zc 400 zpv rfl rfl (by simp only [go_sem, hA]) ?_
  simp only [go_sem, hA, Tryz.results3]
 | false =>
 have hg := zna h1
 have hs := zvk h1
 have e : decide (zG m = zG m) = true := decide_eq_true rfl
 have hl := zBX m hs hg.tl
 rw [zoT] at hl
 have hss := zpU (zmQ m) (zmQ m) (zxS h1)
 rw [(zjd zfL _ _).2 rfl] at hss
 simp only [go_sem, hA, mixed]
 refine zbk 400 (zdU m hg.fine) rfl (by simp only [go_sem, avG]) (by simp only [go_sem, hA]) ?_
 simp only [go_sem, hA]
 refine zbk 400 (zwb m hs) rfl (by simp only [go_sem, avG]) (by simp only [go_sem, hA]) ?_
 simp only [go_sem, hA]
 refine zbk 400 (zCh m hg) rfl (by simp only [go_sem, avG]) (by simp only [go_sem, hA]) ?_
 simp only [go_sem, hA]
 refine zbk 400 hl rfl (by simp only [go_sem, avG]) (by simp only [go_sem, hA]) ?_
 simp only [go_sem, hA]
 refine zbk 400 hss rfl (by simp only [go_sem]) (by simp only [go_sem, hA]) ?_
 simp only [go_sem, hA]
 refine zbk 400 zpv rfl rfl (by simp only [go_sem, hA]) ?_
 simp only [go_sem, hA, Tryz.results3]
 show chk _ _ _ = true
 kernel_rfl
end
end Go.Proofs.YtpnjjmcimjlfkaaGreatDoor
