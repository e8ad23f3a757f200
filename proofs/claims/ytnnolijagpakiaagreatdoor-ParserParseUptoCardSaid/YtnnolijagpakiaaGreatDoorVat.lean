/- Texts of this proof, part 20: what the proof uses of them. -/
import Derived.Test.YtnnolijagpakiaaGreatDoorVas
import Derived.Shelf.SlicesE.Clone
import Derived.Test.YtnnolijagpakiaaGreatDoorVar
import Derived.Test.YtnnolijagpakiaaGreatDoorVam
import Derived.Shelf.RegionOpenPlain
import Derived.WalkKit
import Derived.Deep.LoopGhost
import Derived.Lib.Walk
import Derived.Lib.SliceRun
namespace Go.Proofs.YtnnolijagpakiaaGreatDoor
section
open Go Go.RowKit
abbrev restKs : List Value := [.string ⟨#[102, 117, 110]⟩, .string ⟨#[108, 101, 116]⟩, .string ⟨#[105, 102]⟩, .string ⟨#[99, 97, 115, 101]⟩, .string ⟨#[99, 104, 97, 110, 99, 101]⟩, .string ⟨#[99, 111, 110, 102, 108, 105, 99, 116]⟩]
abbrev restCs : List AV := [.fn 128 [], .fn 129 [], .fn 130 [], .fn 131 [], .fn 132 [], .fn 133 []]
theorem kne_1_0 : decide ((⟨#[108, 101, 116]⟩ : ByteArray) = ⟨#[102, 117, 110]⟩) = false := by decide
theorem kne_2_0 : decide ((⟨#[105, 102]⟩ : ByteArray) = ⟨#[102, 117, 110]⟩) = false := by decide
theorem kne_2_1 : decide ((⟨#[105, 102]⟩ : ByteArray) = ⟨#[108, 101, 116]⟩) = false := by decide
theorem kne_3_0 : decide ((⟨#[99, 97, 115, 101]⟩ : ByteArray) = ⟨#[102, 117, 110]⟩) = false := by decide
theorem kne_3_1 : decide ((⟨#[99, 97, 115, 101]⟩ : ByteArray) = ⟨#[108, 101, 116]⟩) = false := by decide
theorem kne_3_2 : decide ((⟨#[99, 97, 115, 101]⟩ : ByteArray) = ⟨#[105, 102]⟩) = false := by decide
theorem kne_4_0 : decide ((⟨#[99, 104, 97, 110, 99, 101]⟩ : ByteArray) = ⟨#[102, 117, 110]⟩) = false := by decide
theorem kne_4_1 : decide ((⟨#[99, 104, 97, 110, 99, 101]⟩ : ByteArray) = ⟨#[108, 101, 116]⟩) = false := by decide
theorem kne_4_2 : decide ((⟨#[99, 104, 97, 110, 99, 101]⟩ : ByteArray) = ⟨#[105, 102]⟩) = false := by decide
theorem kne_4_3 : decide ((⟨#[99, 104, 97, 110, 99, 101]⟩ : ByteArray) = ⟨#[99, 97, 115, 101]⟩) = false := by decide
theorem kne_5_0 : decide ((⟨#[99, 111, 110, 102, 108, 105, 99, 116]⟩ : ByteArray) = ⟨#[102, 117, 110]⟩) = false := by decide
theorem kne_5_1 : decide ((⟨#[99, 111, 110, 102, 108, 105, 99, 116]⟩ : ByteArray) = ⟨#[108, 101, 116]⟩) = false := by decide
theorem kne_5_2 : decide ((⟨#[99, 111, 110, 102, 108, 105, 99, 116]⟩ : ByteArray) = ⟨#[105, 102]⟩) = false := by decide
theorem kne_5_3 : decide ((⟨#[99, 111, 110, 102, 108, 105, 99, 116]⟩ : ByteArray) = ⟨#[99, 97, 115, 101]⟩) = false := by decide
theorem kne_5_4 : decide ((⟨#[99, 111, 110, 102, 108, 105, 99, 116]⟩ : ByteArray) = ⟨#[99, 104, 97, 110, 99, 101]⟩) = false := by decide
set_option maxRecDepth 100000 in
set_option maxHeartbeats 4000000 in
theorem rests_c : Con Tryz.prog 74 [] (.mapd restKs restCs) := by
 refine con_ofF [1000] Tryz.func74 rfl (by decide +kernel) rfl rfl (by simp [Tryz.ntmps74]) fun A hA => ?_
 rw [Tryz.ntmps74] at hA
 refine goC 300 ?_
 simp only [go_sem, hA, keyFit, kne_1_0, kne_2_0, kne_2_1, kne_3_0, kne_3_1, kne_3_2, kne_4_0, kne_4_1, kne_4_2, kne_4_3, kne_5_0, kne_5_1, kne_5_2, kne_5_3, kne_5_4, Tryz.results74]
def restOf (t : ByteArray) : Option (List PV) :=
 if t = ⟨#[102, 117, 110]⟩ then some restFunP
 else if t = ⟨#[108, 101, 116]⟩ then some restLetP
 else if t = ⟨#[105, 102]⟩ then some restIfP
 else if t = ⟨#[99, 97, 115, 101]⟩ then some restCaseP
 else if t = ⟨#[99, 104, 97, 110, 99, 101]⟩ then some restChanceP
 else if t = ⟨#[99, 111, 110, 102, 108, 105, 99, 116]⟩ then some restConflictP
 else none
def postBracket (s : RS) (o : Out) : Prop := match s.toks[s.at_]? with
 | some x => if x.kind = 1 then match restOf ⟨x.text.toArray⟩ with
   | some ps => o = .ret (.tup []) (rdL (addTd { s with at_ := s.at_ + 1 } ps))
   | none => o = .ret (.tup []) (rdL (addTd s [pvO 5, pvO 6]))
  else o = .ret (.tup []) (rdL (addTd s [pvO 5, pvO 6]))
 | none => o = .pan (pvR s)
set_option maxRecDepth 100000 in
set_option maxHeartbeats 8000000 in
theorem bracket_r (s : RS) (hs : Room s 20) (ht : s.toks.length ≤ 1048576) : ConL Tryz.prog 138 [.box 901 0, .mapd restKs restCs] (rdL s) (postBracket s) := by
 have hle := hs.le
 have hlt := hs.lt
 refine conL_of [901] [910, 911, 912, 913] Tryz.func138 rfl (by decide +kernel) (by simp [Tryz.ntmps138]) fun A hA => ?_
 rw [Tryz.ntmps138] at hA
 refine goC 300 ?_
 simp only [go_sem, hA]
 refine goCallL [901] [910, 911, 912, 913] 300 (next_r s) rfl rfl rfl rfl rfl (by simp only [go_sem, hA]) (fun res L' h => ?_) (fun pv h => ?_)
 rotate_left
 ·cases hp : s.toks[s.at_]? with
  | none => unfold postNext at h; rw [hp] at h; cases h; exact ⟨_, rfl, by unfold postBracket; rw [hp]⟩
  | some x => unfold postNext at h; rw [hp] at h; cases h
 cases hp : s.toks[s.at_]? with
 | none => unfold postNext at h; rw [hp] at h; cases h
 | some x =>
  have hl := (List.getElem?_eq_some_iff.1 hp).1
  unfold postNext at h
  rw [hp] at h
  cases h
  by_cases hk : x.kind = 1
  ·have g1 : decide (x.kind = 1) = true := decide_eq_true hk
   generalize ht' : (⟨x.text.toArray⟩ : ByteArray) = tx
   by_cases c0 : tx = ⟨#[102, 117, 110]⟩
   ·subst c0
    simp only [go_sem, hA, encT, g1, ht', decide_true]
    refine ⟨by unfold inI64; omega, ?_⟩
    refine goCallL [901] [910, 911, 912, 913] 300 (restFun_r { s with at_ := s.at_ + 1 } ⟨hle, hlt⟩) rfl rfl rfl rfl rfl (by simp only [go_sem, hA]) (fun res L' h => ?_) (fun pv h => by cases h)
    cases h
    simp only [go_sem]
    exact ⟨.tup [], rfl, rfl, by unfold postBracket; rw [hp]; simp only [hk, if_true, ht']; rfl⟩
   have d0 : decide (tx = ⟨#[102, 117, 110]⟩) = false := decide_eq_false c0
   by_cases c1 : tx = ⟨#[108, 101, 116]⟩
   ·subst c1
    simp only [go_sem, hA, encT, g1, ht', kne_1_0, decide_true]
    refine ⟨by unfold inI64; omega, ?_⟩
    refine goCallL [901] [910, 911, 912, 913] 300 (restLet_r { s with at_ := s.at_ + 1 } ⟨hle, hlt⟩) rfl rfl rfl rfl rfl (by simp only [go_sem, hA]) (fun res L' h => ?_) (fun pv h => by cases h)
    cases h
    simp only [go_sem]
    exact ⟨.tup [], rfl, rfl, by unfold postBracket; rw [hp]; simp only [hk, if_true, ht']; rfl⟩
   have d1 : decide (tx = ⟨#[108, 101, 116]⟩) = false := decide_eq_false c1
   by_cases c2 : tx = ⟨#[105, 102]⟩
   ·subst c2
    simp only [go_sem, hA, encT, g1, ht', kne_2_0, kne_2_1, decide_true]
    refine ⟨by unfold inI64; omega, ?_⟩
    refine goCallL [901] [910, 911, 912, 913] 300 (restIf_r { s with at_ := s.at_ + 1 } ⟨hle, hlt⟩) rfl rfl rfl rfl rfl (by simp only [go_sem, hA]) (fun res L' h => ?_) (fun pv h => by cases h)
    cases h
    simp only [go_sem]
    exact ⟨.tup [], rfl, rfl, by unfold postBracket; rw [hp]; simp only [hk, if_true, ht']; rfl⟩
   have d2 : decide (tx = ⟨#[105, 102]⟩) = false := decide_eq_false c2
   by_cases c3 : tx = ⟨#[99, 97, 115, 101]⟩
   ·subst c3
    simp only [go_sem, hA, encT, g1, ht', kne_3_0, kne_3_1, kne_3_2, decide_true]
    refine ⟨by unfold inI64; omega, ?_⟩
    refine goCallL [901] [910, 911, 912, 913] 300 (restCase_r { s with at_ := s.at_ + 1 } ⟨hle, hlt⟩) rfl rfl rfl rfl rfl (by simp only [go_sem, hA]) (fun res L' h => ?_) (fun pv h => by cases h)
    cases h
    simp only [go_sem]
    exact ⟨.tup [], rfl, rfl, by unfold postBracket; rw [hp]; simp only [hk, if_true, ht']; rfl⟩
   have d3 : decide (tx = ⟨#[99, 97, 115, 101]⟩) = false := decide_eq_false c3
   by_cases c4 : tx = ⟨#[99, 104, 97, 110, 99, 101]⟩
   ·subst c4
    simp only [go_sem, hA, encT, g1, ht', kne_4_0, kne_4_1, kne_4_2, kne_4_3, decide_true]
    refine ⟨by unfold inI64; omega, ?_⟩
    refine goCallL [901] [910, 911, 912, 913] 300 (restChance_r { s with at_ := s.at_ + 1 } ⟨hle, hlt⟩) rfl rfl rfl rfl rfl (by simp only [go_sem, hA]) (fun res L' h => ?_) (fun pv h => by cases h)
    cases h
    simp only [go_sem]
    exact ⟨.tup [], rfl, rfl, by unfold postBracket; rw [hp]; simp only [hk, if_true, ht']; rfl⟩
   have d4 : decide (tx = ⟨#[99, 104, 97, 110, 99, 101]⟩) = false := decide_eq_false c4
   by_cases c5 : tx = ⟨#[99, 111, 110, 102, 108, 105, 99, 116]⟩
   ·subst c5
    simp only [go_sem, hA, encT, g1, ht', kne_5_0, kne_5_1, kne_5_2, kne_5_3, kne_5_4, decide_true]
    refine ⟨by unfold inI64; omega, ?_⟩
    refine goCallL [901] [910, 911, 912, 913] 300 (restConflict_r { s with at_ := s.at_ + 1 } ⟨hle, hlt⟩) rfl rfl rfl rfl rfl (by simp only [go_sem, hA]) (fun res L' h => ?_) (fun pv h => by cases h)
    cases h
    simp only [go_sem]
    exact ⟨.tup [], rfl, rfl, by unfold postBracket; rw [hp]; simp only [hk, if_true, ht']; rfl⟩
   have d5 : decide (tx = ⟨#[99, 111, 110, 102, 108, 105, 99, 116]⟩) = false := decide_eq_false c5
   simp only [go_sem, hA, encT, g1, ht', d0, d1, d2, d3, d4, d5]
   refine goCall 300 (only_c 5) rfl (by simp only [go_sem]) (by simp only [go_sem, hA]) ?_
   simp only [go_sem]
   refine goCall 300 (only_c 6) rfl (by simp only [go_sem]) (by simp only [go_sem, hA]) ?_
   simp only [go_sem, hA]
   refine goCallL [901] [910, 911, 912, 913] 300 (add_r s [pvO 5, pvO 6] (by simp) (by simp) hle (by simp; omega)) rfl rfl rfl rfl rfl (by simp only [go_sem, hA]) (fun res L' h => ?_) (fun pv h => by cases h)
   cases h
   simp only [go_sem]
   exact ⟨.tup [], rfl, rfl, by unfold postBracket; rw [hp]; simp only [hk, if_true, ht', restOf, c0, c1, c2, c3, c4, c5, if_false]⟩
  ·have g1 : decide (x.kind = 1) = false := decide_eq_false hk
   simp only [go_sem, hA, encT, g1]
   refine goCall 300 (only_c 5) rfl (by simp only [go_sem]) (by simp only [go_sem, hA]) ?_
   simp only [go_sem]
   refine goCall 300 (only_c 6) rfl (by simp only [go_sem]) (by simp only [go_sem, hA]) ?_
   simp only [go_sem, hA]
   refine goCallL [901] [910, 911, 912, 913] 300 (add_r s [pvO 5, pvO 6] (by simp) (by simp) hle (by simp; omega)) rfl rfl rfl rfl rfl (by simp only [go_sem, hA]) (fun res L' h => ?_) (fun pv h => by cases h)
   cases h
   simp only [go_sem]
   exact ⟨.tup [], rfl, rfl, by unfold postBracket; rw [hp]; simp only [hk, if_false]⟩
end
section
open Go Go.RowKit
def tailOf (k : Int) (t : ByteArray) : PV × Bool :=
 if k = 4 then
  if t = ⟨#[43]⟩ ∨ t = ⟨#[45]⟩ ∨ t = ⟨#[42]⟩ ∨ t = ⟨#[61]⟩ ∨ t = ⟨#[60]⟩ then (⟨7, ⟨#[]⟩, 10, t, 0, 0, 2⟩, true)
  else if t = ⟨#[58, 58]⟩ then (pvJ 12 0 0 2, true) else (pvJ 7 0 0 2, false)
 else (pvJ 7 0 0 2, false)
def tailS (s : RS) (x : LTok) : RS := if (tailOf x.kind ⟨x.text.toArray⟩).2 = true then { s with at_ := s.at_ + 1 } else s
def postTail (s : RS) (o : Out) : Prop := match s.toks[s.at_]? with
 | some x => o = .ret (.tup []) (rdL (addTd (tailS s x) [pvO 5, pvS ⟨#[41]⟩, (tailOf x.kind ⟨x.text.toArray⟩).1]))
 | none => o = .pan (pvR s)
theorem one_1_0 : decide ((⟨#[45]⟩ : ByteArray) = ⟨#[43]⟩) = false := by decide
theorem one_2_0 : decide ((⟨#[42]⟩ : ByteArray) = ⟨#[43]⟩) = false := by decide
theorem one_2_1 : decide ((⟨#[42]⟩ : ByteArray) = ⟨#[45]⟩) = false := by decide
theorem one_3_0 : decide ((⟨#[61]⟩ : ByteArray) = ⟨#[43]⟩) = false := by decide
theorem one_3_1 : decide ((⟨#[61]⟩ : ByteArray) = ⟨#[45]⟩) = false := by decide
theorem one_3_2 : decide ((⟨#[61]⟩ : ByteArray) = ⟨#[42]⟩) = false := by decide
theorem one_4_0 : decide ((⟨#[60]⟩ : ByteArray) = ⟨#[43]⟩) = false := by decide
theorem one_4_1 : decide ((⟨#[60]⟩ : ByteArray) = ⟨#[45]⟩) = false := by decide
theorem one_4_2 : decide ((⟨#[60]⟩ : ByteArray) = ⟨#[42]⟩) = false := by decide
theorem one_4_3 : decide ((⟨#[60]⟩ : ByteArray) = ⟨#[61]⟩) = false := by decide
theorem one_5_0 : decide ((⟨#[58, 58]⟩ : ByteArray) = ⟨#[43]⟩) = false := by decide
theorem one_5_1 : decide ((⟨#[58, 58]⟩ : ByteArray) = ⟨#[45]⟩) = false := by decide
theorem one_5_2 : decide ((⟨#[58, 58]⟩ : ByteArray) = ⟨#[42]⟩) = false := by decide
theorem one_5_3 : decide ((⟨#[58, 58]⟩ : ByteArray) = ⟨#[61]⟩) = false := by decide
theorem one_5_4 : decide ((⟨#[58, 58]⟩ : ByteArray) = ⟨#[60]⟩) = false := by decide
set_option maxRecDepth 100000 in
set_option maxHeartbeats 8000000 in
theorem tail_r (s : RS) (hs : Room s 20) (ht : s.toks.length ≤ 1048576) : ConL Tryz.prog 81 [.box 901 0] (rdL s) (postTail s) := by
 have hle := hs.le
 have hlt := hs.lt
 refine conL_of [901] [910, 911, 912, 913] Tryz.func81 rfl (by decide +kernel) (by simp [Tryz.ntmps81]) fun A hA => ?_
 rw [Tryz.ntmps81] at hA
 refine goC 100300 ?_
 simp only [go_sem, hA]
 refine goCallL [901] [910, 911, 912, 913] 100300 (next_r s) rfl rfl rfl rfl rfl (by simp only [go_sem, hA]) (fun res L' h => ?_) (fun pv h => ?_)
 rotate_left
 ·cases hp : s.toks[s.at_]? with
  | none => unfold postNext at h; rw [hp] at h; cases h; exact ⟨_, rfl, by unfold postTail; rw [hp]⟩
  | some x => unfold postNext at h; rw [hp] at h; cases h
 cases hp : s.toks[s.at_]? with
 | none => unfold postNext at h; rw [hp] at h; cases h
 | some x =>
  have hl := (List.getElem?_eq_some_iff.1 hp).1
  unfold postNext at h
  rw [hp] at h
  cases h
  simp only [go_sem, hA, encT]
  refine goCall 100300 (join_c 7 0 0 2) rfl (by simp only [go_sem]) (by simp only [go_sem, hA]) ?_
  by_cases hk : x.kind = 4
  ·have g1 : decide (x.kind = 4) = true := decide_eq_true hk
   generalize ht' : (⟨x.text.toArray⟩ : ByteArray) = tx
   by_cases c0 : tx = ⟨#[43]⟩
   ·subst c0
    simp only [go_sem, hA, g1, decide_true]
    refine goCall 100300 (join_c 10 0 0 2) rfl (by simp only [go_sem]) (by simp only [go_sem, hA]) ?_
    simp only [go_sem, hA]
    refine ⟨by unfold inI64; omega, ?_⟩
    refine goDrawnL 100300 mixed ?_
    refine dCon 1 [1, 2, 4, 5] (only_c 5) [] rfl rfl rfl (by kernel_rfl) rfl (by kernel_rfl) (by simp only [go_sem, hA]) ?_
    simp only [go_sem, hA]
    refine ⟨by kernel_rfl, ?_⟩
    refine dCon 2 [2, 4, 5] (sign_c ⟨#[41]⟩) [] rfl rfl rfl (by kernel_rfl) rfl (by kernel_rfl) (by simp only [go_sem, hA]) ?_
    simp only [go_sem, hA]
    refine ⟨by kernel_rfl, ?_⟩
    refine dCall 5 [5] [901] [910, 911, 912, 913] (add_r ({ s with at_ := s.at_ + 1 }) [pvO 5, pvS ⟨#[41]⟩, ⟨7, ⟨#[]⟩, 10, ⟨#[43]⟩, 0, 0, 2⟩] (by simp) (by simp) hle (by simp; omega)) [] rfl rfl rfl (by kernel_rfl) rfl (by simp only [go_sem]) (by kernel_rfl) (by simp only [go_sem, hA]) ?_
    simp only [go_sem, hA]
    refine ⟨by kernel_rfl, fun x L' h => ?_⟩
    cases h
    refine dFin ?_
    simp only [go_sem, hA]
    refine ⟨by kernel_rfl, ?_⟩
    exact ⟨.tup [], rfl, rfl, by unfold postTail tailS tailOf; rw [hp]; simp only [hk, if_true, ht', true_or]⟩
   have d0 : decide (tx = ⟨#[43]⟩) = false := decide_eq_false c0
   by_cases c1 : tx = ⟨#[45]⟩
   ·subst c1
    simp only [go_sem, hA, g1, one_1_0, decide_true]
    refine goCall 100300 (join_c 10 0 0 2) rfl (by simp only [go_sem]) (by simp only [go_sem, hA]) ?_
    simp only [go_sem, hA]
    refine ⟨by unfold inI64; omega, ?_⟩
    refine goDrawnL 100300 mixed ?_
    refine dCon 1 [1, 2, 4, 5] (only_c 5) [] rfl rfl rfl (by kernel_rfl) rfl (by kernel_rfl) (by simp only [go_sem, hA]) ?_
    simp only [go_sem, hA]
    refine ⟨by kernel_rfl, ?_⟩
    refine dCon 2 [2, 4, 5] (sign_c ⟨#[41]⟩) [] rfl rfl rfl (by kernel_rfl) rfl (by kernel_rfl) (by simp only [go_sem, hA]) ?_
    simp only [go_sem, hA]
    refine ⟨by kernel_rfl, ?_⟩
    refine dCall 5 [5] [901] [910, 911, 912, 913] (add_r ({ s with at_ := s.at_ + 1 }) [pvO 5, pvS ⟨#[41]⟩, ⟨7, ⟨#[]⟩, 10, ⟨#[45]⟩, 0, 0, 2⟩] (by simp) (by simp) hle (by simp; omega)) [] rfl rfl rfl (by kernel_rfl) rfl (by simp only [go_sem]) (by kernel_rfl) (by simp only [go_sem, hA]) ?_
    simp only [go_sem, hA]
    refine ⟨by kernel_rfl, fun x L' h => ?_⟩
    cases h
    refine dFin ?_
    simp only [go_sem, hA]
    refine ⟨by kernel_rfl, ?_⟩
    exact ⟨.tup [], rfl, rfl, by unfold postTail tailS tailOf; rw [hp]; simp only [hk, if_true, ht', true_or, or_true]⟩
   have d1 : decide (tx = ⟨#[45]⟩) = false := decide_eq_false c1
   by_cases c2 : tx = ⟨#[42]⟩
   ·subst c2
    simp only [go_sem, hA, g1, one_2_0, one_2_1, decide_true]
    refine goCall 100300 (join_c 10 0 0 2) rfl (by simp only [go_sem]) (by simp only [go_sem, hA]) ?_
    simp only [go_sem, hA]
    refine ⟨by unfold inI64; omega, ?_⟩
    refine goDrawnL 100300 mixed ?_
    refine dCon 1 [1, 2, 4, 5] (only_c 5) [] rfl rfl rfl (by kernel_rfl) rfl (by kernel_rfl) (by simp only [go_sem, hA]) ?_
    simp only [go_sem, hA]
    refine ⟨by kernel_rfl, ?_⟩
    refine dCon 2 [2, 4, 5] (sign_c ⟨#[41]⟩) [] rfl rfl rfl (by kernel_rfl) rfl (by kernel_rfl) (by simp only [go_sem, hA]) ?_
    simp only [go_sem, hA]
    refine ⟨by kernel_rfl, ?_⟩
    refine dCall 5 [5] [901] [910, 911, 912, 913] (add_r ({ s with at_ := s.at_ + 1 }) [pvO 5, pvS ⟨#[41]⟩, ⟨7, ⟨#[]⟩, 10, ⟨#[42]⟩, 0, 0, 2⟩] (by simp) (by simp) hle (by simp; omega)) [] rfl rfl rfl (by kernel_rfl) rfl (by simp only [go_sem]) (by kernel_rfl) (by simp only [go_sem, hA]) ?_
    simp only [go_sem, hA]
    refine ⟨by kernel_rfl, fun x L' h => ?_⟩
    cases h
    refine dFin ?_
    simp only [go_sem, hA]
    refine ⟨by kernel_rfl, ?_⟩
    exact ⟨.tup [], rfl, rfl, by unfold postTail tailS tailOf; rw [hp]; simp only [hk, if_true, ht', true_or, or_true]⟩
   have d2 : decide (tx = ⟨#[42]⟩) = false := decide_eq_false c2
   by_cases c3 : tx = ⟨#[61]⟩
   ·subst c3
    simp only [go_sem, hA, g1, one_3_0, one_3_1, one_3_2, decide_true]
    refine goCall 100300 (join_c 10 0 0 2) rfl (by simp only [go_sem]) (by simp only [go_sem, hA]) ?_
    simp only [go_sem, hA]
    refine ⟨by unfold inI64; omega, ?_⟩
    refine goDrawnL 100300 mixed ?_
    refine dCon 1 [1, 2, 4, 5] (only_c 5) [] rfl rfl rfl (by kernel_rfl) rfl (by kernel_rfl) (by simp only [go_sem, hA]) ?_
    simp only [go_sem, hA]
    refine ⟨by kernel_rfl, ?_⟩
    refine dCon 2 [2, 4, 5] (sign_c ⟨#[41]⟩) [] rfl rfl rfl (by kernel_rfl) rfl (by kernel_rfl) (by simp only [go_sem, hA]) ?_
    simp only [go_sem, hA]
    refine ⟨by kernel_rfl, ?_⟩
    refine dCall 5 [5] [901] [910, 911, 912, 913] (add_r ({ s with at_ := s.at_ + 1 }) [pvO 5, pvS ⟨#[41]⟩, ⟨7, ⟨#[]⟩, 10, ⟨#[61]⟩, 0, 0, 2⟩] (by simp) (by simp) hle (by simp; omega)) [] rfl rfl rfl (by kernel_rfl) rfl (by simp only [go_sem]) (by kernel_rfl) (by simp only [go_sem, hA]) ?_
    simp only [go_sem, hA]
    refine ⟨by kernel_rfl, fun x L' h => ?_⟩
    cases h
    refine dFin ?_
    simp only [go_sem, hA]
    refine ⟨by kernel_rfl, ?_⟩
    exact ⟨.tup [], rfl, rfl, by unfold postTail tailS tailOf; rw [hp]; simp only [hk, if_true, ht', true_or, or_true]⟩
   have d3 : decide (tx = ⟨#[61]⟩) = false := decide_eq_false c3
   by_cases c4 : tx = ⟨#[60]⟩
   ·subst c4
    simp only [go_sem, hA, g1, one_4_0, one_4_1, one_4_2, one_4_3, decide_true]
    refine goCall 100300 (join_c 10 0 0 2) rfl (by simp only [go_sem]) (by simp only [go_sem, hA]) ?_
    simp only [go_sem, hA]
    refine ⟨by unfold inI64; omega, ?_⟩
    refine goDrawnL 100300 mixed ?_
    refine dCon 1 [1, 2, 4, 5] (only_c 5) [] rfl rfl rfl (by kernel_rfl) rfl (by kernel_rfl) (by simp only [go_sem, hA]) ?_
    simp only [go_sem, hA]
    refine ⟨by kernel_rfl, ?_⟩
    refine dCon 2 [2, 4, 5] (sign_c ⟨#[41]⟩) [] rfl rfl rfl (by kernel_rfl) rfl (by kernel_rfl) (by simp only [go_sem, hA]) ?_
    simp only [go_sem, hA]
    refine ⟨by kernel_rfl, ?_⟩
    refine dCall 5 [5] [901] [910, 911, 912, 913] (add_r ({ s with at_ := s.at_ + 1 }) [pvO 5, pvS ⟨#[41]⟩, ⟨7, ⟨#[]⟩, 10, ⟨#[60]⟩, 0, 0, 2⟩] (by simp) (by simp) hle (by simp; omega)) [] rfl rfl rfl (by kernel_rfl) rfl (by simp only [go_sem]) (by kernel_rfl) (by simp only [go_sem, hA]) ?_
    simp only [go_sem, hA]
    refine ⟨by kernel_rfl, fun x L' h => ?_⟩
    cases h
    refine dFin ?_
    simp only [go_sem, hA]
    refine ⟨by kernel_rfl, ?_⟩
    exact ⟨.tup [], rfl, rfl, by unfold postTail tailS tailOf; rw [hp]; simp only [hk, if_true, ht', or_true]⟩
   have d4 : decide (tx = ⟨#[60]⟩) = false := decide_eq_false c4
   by_cases c5 : tx = ⟨#[58, 58]⟩
   ·subst c5
    simp only [go_sem, hA, g1, one_5_0, one_5_1, one_5_2, one_5_3, one_5_4, decide_true]
    refine goCall 100300 (join_c 12 0 0 2) rfl (by simp only [go_sem]) (by simp only [go_sem, hA]) ?_
    simp only [go_sem, hA]
    refine ⟨by unfold inI64; omega, ?_⟩
    refine goDrawnL 100300 mixed ?_
    refine dCon 1 [1, 2, 4, 5] (only_c 5) [] rfl rfl rfl (by kernel_rfl) rfl (by kernel_rfl) (by simp only [go_sem, hA]) ?_
    simp only [go_sem, hA]
    refine ⟨by kernel_rfl, ?_⟩
    refine dCon 2 [2, 4, 5] (sign_c ⟨#[41]⟩) [] rfl rfl rfl (by kernel_rfl) rfl (by kernel_rfl) (by simp only [go_sem, hA]) ?_
    simp only [go_sem, hA]
    refine ⟨by kernel_rfl, ?_⟩
    refine dCall 5 [5] [901] [910, 911, 912, 913] (add_r ({ s with at_ := s.at_ + 1 }) [pvO 5, pvS ⟨#[41]⟩, pvJ 12 0 0 2] (by simp) (by simp) hle (by simp; omega)) [] rfl rfl rfl (by kernel_rfl) rfl (by simp only [go_sem]) (by kernel_rfl) (by simp only [go_sem, hA]) ?_
    simp only [go_sem, hA]
    refine ⟨by kernel_rfl, fun x L' h => ?_⟩
    cases h
    refine dFin ?_
    simp only [go_sem, hA]
    refine ⟨by kernel_rfl, ?_⟩
    exact ⟨.tup [], rfl, rfl, by unfold postTail tailS tailOf; rw [hp]; simp only [hk, if_true, ht', c0, c1, c2, c3, c4, or_self, if_false]⟩
   have d5 : decide (tx = ⟨#[58, 58]⟩) = false := decide_eq_false c5
   simp only [go_sem, hA, g1, d0, d1, d2, d3, d4, d5]
   refine goDrawnL 100300 mixed ?_
   refine dCon 1 [1, 2, 4, 5] (only_c 5) [] rfl rfl rfl (by kernel_rfl) rfl (by kernel_rfl) (by simp only [go_sem, hA]) ?_
   simp only [go_sem, hA]
   refine ⟨by kernel_rfl, ?_⟩
   refine dCon 2 [2, 4, 5] (sign_c ⟨#[41]⟩) [] rfl rfl rfl (by kernel_rfl) rfl (by kernel_rfl) (by simp only [go_sem, hA]) ?_
   simp only [go_sem, hA]
   refine ⟨by kernel_rfl, ?_⟩
   refine dCall 5 [5] [901] [910, 911, 912, 913] (add_r (s) [pvO 5, pvS ⟨#[41]⟩, pvJ 7 0 0 2] (by simp) (by simp) hle (by simp; omega)) [] rfl rfl rfl (by kernel_rfl) rfl (by simp only [go_sem]) (by kernel_rfl) (by simp only [go_sem, hA]) ?_
   simp only [go_sem, hA]
   refine ⟨by kernel_rfl, fun x L' h => ?_⟩
   cases h
   refine dFin ?_
   simp only [go_sem, hA]
   refine ⟨by kernel_rfl, ?_⟩
   exact ⟨.tup [], rfl, rfl, by unfold postTail tailS tailOf; rw [hp]; simp only [hk, if_true, ht', c0, c1, c2, c3, c4, c5, or_self, if_false]; rfl⟩
  ·have g1 : decide (x.kind = 4) = false := decide_eq_false hk
   simp only [go_sem, hA, g1]
   refine goDrawnL 100300 mixed ?_
   refine dCon 1 [1, 2, 4, 5] (only_c 5) [] rfl rfl rfl (by kernel_rfl) rfl (by kernel_rfl) (by simp only [go_sem, hA]) ?_
   simp only [go_sem, hA]
   refine ⟨by kernel_rfl, ?_⟩
   refine dCon 2 [2, 4, 5] (sign_c ⟨#[41]⟩) [] rfl rfl rfl (by kernel_rfl) rfl (by kernel_rfl) (by simp only [go_sem, hA]) ?_
   simp only [go_sem, hA]
   refine ⟨by kernel_rfl, ?_⟩
   refine dCall 5 [5] [901] [910, 911, 912, 913] (add_r (s) [pvO 5, pvS ⟨#[41]⟩, pvJ 7 0 0 2] (by simp) (by simp) hle (by simp; omega)) [] rfl rfl rfl (by kernel_rfl) rfl (by simp only [go_sem]) (by kernel_rfl) (by simp only [go_sem, hA]) ?_
   simp only [go_sem, hA]
   refine ⟨by kernel_rfl, fun x L' h => ?_⟩
   cases h
   refine dFin ?_
   simp only [go_sem, hA]
   refine ⟨by kernel_rfl, ?_⟩
   exact ⟨.tup [], rfl, rfl, by unfold postTail tailS tailOf; rw [hp]; simp only [hk, if_false]; rfl⟩
end
section
open Go Go.RowKit
def cloneRen : Go.Shelf.Ren := ⟨fun | 41 => 141 | n => n, fun | 22 => 34 | 23 => 36 | 4 => 4 | n => n, fun | n => n⟩
theorem cloneLay : Go.Proofs.SlLaysE0.n41 Tryz.prog cloneRen := {
 mixed := by kernel_rfl
 f41 := ⟨Tryz.f141.name, by decide, Tryz.func141.trans (congrArg some (by kernel_rfl))⟩
 t4 := Tryz.underlying4
 a4 := Tryz.isAgg4
 z4 := Tryz.sizeOf4
 v4 := Tryz.zeroValue4
 t22 := Tryz.underlying34
 a22 := Tryz.isAgg34
 z22 := Tryz.sizeOf34
 v22 := Tryz.zeroValue34 }
theorem clone_v (b off n c : Nat) (news : List Value) (w : World) (hl : news.length = n * 6) (hn : n ≤ 1099511627776) (hc : ∀ j u, news[j]? = some u → w.cell? ⟨b, off + j, none⟩ = some u) (h1 : ∀ u ∈ news, u.oneCell' = true) :
  Calls Tryz.prog 141 #[.slice (some ⟨b, off, none⟩) n c] w fun e w' => ∃ v', e = .returned v' ∧ w'.ownsRow w.heap.size 36 6 v' n news ∧ Below w.heap.size w w' := by
 obtain ⟨i0, hi⟩ : ∃ i0, Tryz.prog.info? 36 = some i0 := underlying_info Tryz.underlying36
 have h6 := cells_36
 have hby := bytes_36
 have hz := zero_36
 unfold zeroOf at hz
 rw [hi] at hz
 have e6 : i0.size = 6 := by rw [← h6]; simp [Program.cellsOf, hi]
 have eb : i0.bytes = Tryz.prog.bytesOf 36 := by simp [Program.bytesOf, hi]
 rw [hby] at eb
 have hso : ∀ w, (Go.sizeOf 36).run Tryz.prog w = .ok 6 w := fun w => (run_sizeOf (P := Tryz.prog) (t := 36) (by rw [h6]; decide) w).trans (by rw [h6])
 refine (AnyE.slices_Clone cloneLay i0 _ 6 _ hi hz e6 eb (by rfl) (by decide) hso b off n c news w hl (by unfold maxLen; omega) (by omega) hc h1).mono ?_
 rintro e w' ⟨v', rfl, h2, _, h3⟩
 exact ⟨v', rfl, h2, h3⟩
open Go.Shelf Go.Lib in
set_option maxHeartbeats 2000000 in
set_option maxRecDepth 100000 in
theorem zero_any {P : Program} {ρ : Go.Shelf.Ren} (L : Go.Proofs.SlLaysE0.n41 P ρ) (i0 : TypeInfo) (z : Value) (size bytes : Nat) (hi : P.info? (ρ.t 23) = some i0) (hz0 : i0.zero = some z) (hz1 : i0.size = size) (hz2 : i0.bytes = bytes) (hzs : z.cells.size = size) (hsz : 0 < size)
  (z23 : ∀ w, (Go.sizeOf (ρ.t 23)).run P w = .ok size w) (ad : Addr) (c : Nat) (w : World) :
  Calls P (ρ.f 41) #[.slice (some ad) 0 c] w fun e w' => ∃ v', e = .returned v' ∧ w'.ownsRow w.heap.size (ρ.t 23) size v' 0 [] ∧ Below w.heap.size w w' := by
 have mixed := L.mixed; have t4 := L.t4; have a4 := L.a4; have z4 := L.z4; have v4 := L.v4; have t22 := L.t22; have a22 := L.a22; have z22 := L.z22; have v22 := L.v22
 have q22 : ∀ (w : World) (a : Option Addr) (n c n' c' : Nat), (binOp .eql (ρ.t 22) (.slice a n c) (.slice none n' c')).run P w = .ok (.bool a.isNone) w := fun w a n c n' c' => Lib.run_eql_slice_nil w _ _ a n c n' c' L.t22
 have u22 : ∀ w, Sem.run P (underlying (ρ.t 22)) w = .ok (TypeDesc.slice (ρ.t 23)) w := run_underlying t22
 obtain ⟨_, _, FG⟩ := L.f41
 go_enter FG, SlBodyN.n41_ntmps ρ
 go_wp2_with (at_builtin; refine wpList_append_own _ rfl _ _ (ρ.t 22) rfl w.heap.size (ρ.t 23) i0 z size bytes t22 hi hz0 hz1 hz2 hzs hsz _ _ _ rfl (World.ownsRow_made w #[] 0 (Nat.le_refl _) (Nat.zero_le _) (by simp)) ad 0 c [] rfl (by simp) (by intro j u hj; simp at hj) (by intro u hu; cases hu) (by unfold maxLen; omega) (by omega) (by simp) ?_)
 intro v' w1 hown hgrow hnil
 go_wp2
 go_ret
 refine ⟨v', rfl, by simpa using hown, ?_⟩
 exact ((Below.refl _ w).alloc (Nat.le_refl _) _).grown hgrow (by simp) (by intro k hk; simp [Value.ownBlock] at hk; omega)
theorem clone_zero (ad : Addr) (c : Nat) (w : World) : Calls Tryz.prog 141 #[.slice (some ad) 0 c] w fun e w' => ∃ v', e = .returned v' ∧ w'.ownsRow w.heap.size 36 6 v' 0 [] ∧ Below w.heap.size w w' := by
 obtain ⟨i0, hi⟩ : ∃ i0, Tryz.prog.info? 36 = some i0 := underlying_info Tryz.underlying36
 have h6 := cells_36
 have hz := zero_36
 unfold zeroOf at hz
 rw [hi] at hz
 have e6 : i0.size = 6 := by rw [← h6]; simp [Program.cellsOf, hi]
 have hso : ∀ w, (Go.sizeOf 36).run Tryz.prog w = .ok 6 w := fun w => (run_sizeOf (P := Tryz.prog) (t := 36) (by rw [h6]; decide) w).trans (by rw [h6])
 exact zero_any cloneLay i0 _ 6 _ hi hz e6 rfl (by rfl) (by decide) hso ad c w
section
variable {A : Base Tryz.prog} {σ : St} {g : Gh} {a : Act} {w : World}
theorem run_call3 {o : Oper} {c : Call} {p : Operand} {f : FuncId} (hk : Ok A σ g a w) (ho : o.op = .call c) (hp : c.callee = .value p) (hf : σ.eval p = .fn f []) (hen : Enters Tryz.prog f) : (execOp a.eval o).run Tryz.prog w = .ok (.enter f (c.args.toList.map a.eval).toArray) w := by
 have hpe := hk.eval p
 rw [hf] at hpe
 obtain ⟨vs, hv, hvl, hvs⟩ := hpe.fn_eq
 obtain rfl : vs = [] := List.eq_nil_of_length_eq_zero hvl.symm
 simp only [execOp, ho, resolve, hp, hv, Deferred.ofValue, Sem.run_bind, Sem.run_pure, Result.andThen_ok, invoke]
 rw [run_callFunc hen]
 have he : #[] ++ c.args.map a.eval ++ [].toArray = (c.args.toList.map a.eval).toArray := by
  apply Array.ext'; simp
 rw [he]
theorem clone_done {K : Act → World → Prop} {o : Oper} {w' : World} {v' : Value} {n : Nat} {news : List Value} {rows : List (List D)} (hk : Ok A σ g a w) (hown : w'.ownsRow w.heap.size 36 6 v' n news) (hbel : Below w.heap.size w w') (hl : rows.length = n) (hrow : ∀ i (h : i < rows.length), rows[i].length = 6)
  (hr : ∀ i (hi : i < rows.length) j (hj : j < rows[i].length), ∃ u, news[i * 6 + j]? = some u ∧ Reads w g.F rows[i][j] u)
  (hK : ∀ g' v w', Ok A σ g' a w' → Has g' σ.tk w' (.d (.sl rows)) v → K (a.put o.dst v) w') : K (a.put o.dst v') w' := by
 obtain ⟨h1, e1⟩ := hk.grown hbel (fun b o => g.F b o ∨ (v'.ownBlock = some b ∧ o < n * 6)) (fun _ _ h => .inl h) (fun b o h => h.imp id fun h => hown.lt b h.1)
 refine hK _ v' w' h1 (.d ?_)
 rcases hown.2 with ⟨e, hn0⟩ | ⟨gb, cap2, cur, hv2, hgB, hgh, hcap2, hml, hsz, htake⟩
 ·have : rows = [] := List.eq_nil_of_length_eq_zero (by omega)
  subst this
  rw [e]; exact .nil _ _
 ·have hvb : v'.ownBlock = some gb := by rw [hv2]; rfl
  have hrd : Reads w' (fun b o => g.F b o ∨ (v'.ownBlock = some b ∧ o < n * 6)) (.sl rows) (.slice (some ⟨gb, 0, none⟩) rows.length cap2) := Reads.mk (st := 6) (by omega) hrow fun i hi j hj => by
   obtain ⟨u, hu, hrd⟩ := hr i hi j hj
   have h6 := hrow i hi
   have hcell := hown.cells (g := gb) hvb (i * 6 + j) u hu
   rw [Addr.add_lit, Nat.zero_add] at hcell
   exact ⟨.inr ⟨hvb, by omega⟩, u, by rw [Nat.zero_add]; exact hcell, hrd.mono (fun b o h => .inl h) e1.hw⟩
  rw [hl, ← hv2] at hrd
  exact hrd
theorem opOk_cloneStk {o : Oper} {c : Call} {p m : Operand} {r ver off len : Nat} {k : Tok} {rows : List (List D)} (ho : o.op = .call c) (hp : c.callee = .value p) (hf : σ.eval p = .fn 141 []) (hargs : c.args.toList = [m]) (hm : σ.eval m = .stk r 6 ver off len) (hk : σ.tok r = some k) (hex : k.ex = some rows) (hst : k.st = 6) (hver : k.len = ver) (hlen : off + len ≤ rows.length) (hbig : len ≤ 1099511627776) (hfit : rowsFit 6 ((rows.drop off).take len)) :
  OpOk Tryz.prog A o σ σ (.d (.sl ((rows.drop off).take len))) := by
 intro g a w hok K Q hK
 have hr := run_call3 hok ho hp hf ⟨_, Tryz.func141, by decide +kernel, rfl⟩
 have hme := hok.eval m
 rw [hm] at hme
 obtain ⟨pp, cap, hv, hcap, hpp, hvr⟩ := hme.stk_eq
 have htk : σ.tk r = some ver := by unfold St.tk; rw [hk, ← hver]; rfl
 obtain ⟨_, h2⟩ := hvr ver htk
 obtain ⟨h3, h4⟩ := h2 rfl
 obtain ⟨xs, hown, hlow, hrows⟩ := hok.tok r k hk
 obtain ⟨hrl, hxr⟩ := hrows rows hex
 rw [hst] at hrl hxr hown
 have hkn : k.n = rows.length := by unfold Tok.n; rw [hex]
 rw [hkn] at hown
 refine wpE_call hr ?_
 rw [hargs]
 simp only [List.map_cons, List.map_nil]
 rw [hv]
 rcases hown.2 with ⟨e, hn0⟩ | ⟨gb, cap2, cur, hv2, _, hgh, hcap2, hml, hsz, htake⟩
 ·-- nothing lies there
  have hl0 : len = 0 := by omega
  subst hl0
  rw [e] at h3
  simp only [cutS] at h3
  obtain ⟨rfl, _, _⟩ := Value.slice.inj h3
  refine (AnyE.slices_Clone_nil cloneLay 0 cap w).mono ?_
  rintro e w' ⟨rfl, rfl⟩
  refine hK g _ _ hok ?_
  rw [List.take_zero]
  exact .d (.nil _ _)
 ·rw [hv2] at h3
  simp only [cutS, Option.map_some, Addr.add_lit, Nat.zero_add] at h3
  obtain ⟨rfl, _, _⟩ := Value.slice.inj h3
  have hxl : xs.length = rows.length * 6 := hown.1
  have hgv : (g.tv r).ownBlock = some gb := by rw [hv2]; rfl
  have hnl : ((xs.drop (off * 6)).take (len * 6)).length = len * 6 := by
   simp only [List.length_take, List.length_drop]; omega
  have hget : ∀ j, j < len * 6 → ((xs.drop (off * 6)).take (len * 6))[j]? = xs[off * 6 + j]? := fun j hj => by
   rw [List.getElem?_take_of_lt hj, List.getElem?_drop]
  have hxget : ∀ m, m < rows.length * 6 → ∃ (hi : m / 6 < rows.length) (hj : m % 6 < rows[m / 6].length) (u : Value), xs[m]? = some u ∧ Reads w g.F rows[m / 6][m % 6] u := fun m hm => by
   have hi : m / 6 < rows.length := by omega
   have hj : m % 6 < rows[m / 6].length := by rw [hrl _ hi]; omega
   obtain ⟨u, h5, h6⟩ := hxr _ hi _ hj
   refine ⟨hi, hj, u, ?_, h6⟩
   rw [show m / 6 * 6 + m % 6 = m by omega] at h5
   exact h5
  refine (clone_v gb (off * 6) len cap ((xs.drop (off * 6)).take (len * 6)) w hnl hbig (fun j u hu => ?_) (fun u hu => ?_)).mono ?_
  ·have hj : j < len * 6 := by
    have := (List.getElem?_eq_some_iff.1 hu).1
    omega
   rw [hget j hj] at hu
   have := hown.cells hgv (off * 6 + j) u hu
   rw [Addr.add_lit, Nat.zero_add] at this
   exact this
  ·obtain ⟨j, hj, e⟩ := List.getElem_of_mem hu
   rw [hnl] at hj
   have h8 : ((xs.drop (off * 6)).take (len * 6))[j]? = some u := by rw [List.getElem?_eq_getElem (by omega), e]
   rw [hget j hj] at h8
   obtain ⟨hi, hj2, u', h9, h10⟩ := hxget (off * 6 + j) (by omega)
   rw [h8] at h9; cases h9
   have hmem : rows[(off * 6 + j) / 6] ∈ (rows.drop off).take len := by
    refine List.mem_iff_getElem.2 ⟨j / 6, by simp only [List.length_take, List.length_drop]; omega, ?_⟩
    rw [List.getElem_take, List.getElem_drop]
    congr 1; omega
   exact h10.one ((hfit _ hmem).2 _ (List.getElem_mem hj2))
  ·rintro e w' ⟨v', rfl, hown', hbel⟩
   have hdl : ((rows.drop off).take len).length = len := by
    simp only [List.length_take, List.length_drop]; omega
   have hdg : ∀ i (h : i < ((rows.drop off).take len).length), ((rows.drop off).take len)[i] = rows[off + i]'(by omega) := fun i h => by
    rw [List.getElem_take, List.getElem_drop]
   refine clone_done hok hown' hbel hdl (fun i h => by rw [hdg i h]; exact hrl _ _) (fun i h j hj => ?_) hK
   have hj' : j < rows[off + i].length := by rw [← hdg i h]; exact hj
   have h6 := hrl (off + i) (by omega)
   obtain ⟨u, h7, h8⟩ := hxr (off + i) (by omega) j hj'
   refine ⟨u, ?_, ?_⟩
   ·rw [hget _ (by omega), show off * 6 + (i * 6 + j) = (off + i) * 6 + j by omega]; exact h7
   ·simp only [hdg i h]; exact h8
theorem opOk_cloneNil {o : Oper} {c : Call} {p m : Operand} (ho : o.op = .call c) (hp : c.callee = .value p) (hf : σ.eval p = .fn 141 []) (hargs : c.args.toList = [m]) (hm : σ.eval m = .d (.sl [])) :
  OpOk Tryz.prog A o σ σ (.d (.sl [])) := by
 intro g a w hok K Q hK
 have hr := run_call3 hok ho hp hf ⟨_, Tryz.func141, by decide +kernel, rfl⟩
 have hme := hok.eval m
 rw [hm] at hme
 obtain ⟨pp, cap, hv, hcap⟩ := hme.sl.slice
 refine wpE_call hr ?_
 rw [hargs]
 simp only [List.map_cons, List.map_nil]
 rw [hv]
 cases pp with
 | none =>
  refine (AnyE.slices_Clone_nil cloneLay _ cap w).mono ?_
  rintro e w' ⟨rfl, rfl⟩
  exact hK g _ _ hok (.d (.nil _ _))
 | some ad =>
  refine (clone_zero ad cap w).mono ?_
  rintro e w' ⟨v', rfl, hown', hbel⟩
  exact clone_done hok hown' hbel (by simp) (fun i h => by simp at h) (fun i h => by simp at h) hK
end
theorem goExe {P : Program} {A : Base P} {σ σ' : St} (n : Nat) {f : Option FuncId} {all : List Oper} {o : Oper} {rest : List Oper} {i base : Nat} {s : List Itm} {Q : Exit → St → Prop} {x : AV} (h : OpOk P A o σ σ' x) (hd : dstOk A.N o = true)
  (hr : go P A n (.ops all rest (i + 1) base) s (σ'.put o.dst x) Q) : SemM P A (.exe f all o rest i base) s σ Q := satE_op h hd (go_ok n _ _ _ _ hr)
end
section
open Go Go.RowKit
def Sk.cut (k : Sk) (n : Nat) : Sk := ⟨k.ver, n, k.rows⟩
abbrev encN (n : ByteArray) : List D := [.raw (.string n)]
abbrev encI (i : Int) : List D := [.raw (.int .i64 i)]
structure Holds (k : Sk) (l : List (List D)) : Prop where
 len : k.len = l.length
 rows : k.rows.take k.len = l
theorem Holds.le {k : Sk} {l : List (List D)} (h : Holds k l) : k.len ≤ k.rows.length := by
 have h1 := congrArg List.length h.rows
 rw [List.length_take, ← h.len] at h1
 omega
theorem Holds.getD {k : Sk} {l : List (List D)} (h : Holds k l) {i : Nat} (hi : i < k.len) : k.rows.getD i [] = l.getD i [] := by
 rw [← h.rows, List.getD_eq_getElem?_getD, List.getD_eq_getElem?_getD, List.getElem?_take_of_lt hi]
theorem Holds.push {k : Sk} {l : List (List D)} (h : Holds k l) (r : List D) : Holds (k.push r) (l ++ [r]) := by
 refine ⟨by simp [Sk.push, h.len], ?_⟩
 simp only [Sk.push]
 rw [h.rows, List.take_of_length_le (by simp [h.len])]
theorem Holds.cut {k : Sk} {l : List (List D)} (h : Holds k l) {n : Nat} (hn : n ≤ l.length) : Holds (k.cut n) (l.take n) := by
 refine ⟨by simp [Sk.cut]; omega, ?_⟩
 simp only [Sk.cut]
 rw [← h.rows, List.take_take, Nat.min_eq_left (by rw [h.len]; exact hn)]
structure Stks (s : RS) (ns : List ByteArray) (is : List Int) (es : List Ex) : Prop where
 nm : Holds s.nm (ns.map encN)
 ni : Holds s.ni (is.map encI)
 pt : Holds s.pt (encL es)
 few : ns.length + is.length + es.length ≤ 1073741824
def madeE (k : Int) (op : ByteArray) (a b c : Nat) (ns : List ByteArray) (is : List Int) (es : List Ex) : Ex :=
 .mk k (if 0 < a then (ns.drop (ns.length - a)).getD 0 ⟨#[]⟩ else op) (if 1 < a then (ns.drop (ns.length - a)).getD 1 ⟨#[]⟩ else ⟨#[]⟩) (if 1 < b then (is.drop (is.length - b)).getD 0 0 else 0) (if 1 < b then (is.drop (is.length - b)).getD 1 0 else 0) (es.drop (es.length - c))
def builtS (s : RS) (k : Int) (op : ByteArray) (a b c : Nat) (ns : List ByteArray) (is : List Int) (es : List Ex) : RS :=
 { s with nm := s.nm.cut (s.nm.len - a), ni := s.ni.cut (s.ni.len - b), pt := (s.pt.cut (s.pt.len - c)).push (encE (madeE k op a b c ns is es)) }
theorem Holds.top {α : Type} {k : Sk} {l : List α} {f : α → List D} (h : Holds k (l.map f)) (q j : Nat) (x0 : α) (hq : q ≤ l.length) (hj : j < q) : k.rows.getD (k.len - q + j) [] = f ((l.drop (l.length - q)).getD j x0) := by
 have hl := h.len
 rw [List.length_map] at hl
 rw [h.getD (by omega), List.getD_eq_getElem?_getD, List.getD_eq_getElem?_getD, List.getElem?_drop, hl, List.getElem?_map]
 rw [List.getElem?_eq_getElem (by omega)]
 rfl
theorem Holds.clone {k : Sk} {l : List Ex} (h : Holds k (encL l)) (c : Nat) (hc : c ≤ l.length) : (k.rows.drop (k.len - c)).take c = encL (l.drop (l.length - c)) := by
 have hl := h.len
 rw [encL_length] at hl
 have hr := h.rows
 rw [encL_map] at hr ⊢
 rw [List.map_drop, ← hr, List.drop_take]
 rw [show k.len - (l.length - c) = c by omega, hl]
theorem opOk_cloneTop {A : Base Tryz.prog} {σ : St} {o : Oper} {c : Call} {p m : Operand} {s : RS} {es : List Ex} {q : Nat} (ho : o.op = .call c) (hp : c.callee = .value p) (hf : σ.eval p = .fn 141 []) (hargs : c.args.toList = [m]) (hm : σ.eval m = .stk 913 6 s.pt.ver (s.pt.len - q) q)
  (hk : σ.tok 913 = some ⟨6, 36, s.pt.ver, some s.pt.rows⟩) (hH : Holds s.pt (encL es)) (hq : q ≤ es.length) (hfew : es.length ≤ 1073741824) : OpOk Tryz.prog A o σ σ (.d (.sl (encL (es.drop (es.length - q))))) := by
 have hl := hH.len
 rw [encL_length] at hl
 have hle := hH.le
 have := opOk_cloneStk (A := A) ho hp hf hargs hm hk rfl rfl rfl (by omega) (by omega) (by rw [hH.clone q hq]; exact encL_fit _)
 rw [hH.clone q hq] at this
 exact this
set_option maxRecDepth 100000 in
set_option maxHeartbeats 8000000 in
theorem build_101 (s : RS) (k : Int) (op : ByteArray) (ns : List ByteArray) (is : List Int) (es : List Ex) (hs : Stks s ns is es) (ha : 1 ≤ ns.length) (hc : 1 ≤ es.length) :
  ConL Tryz.prog 82 [.box 901 0, .agg ((encPV ⟨7, ⟨#[]⟩, k, op, 1, 0, 1⟩).map .d)] (rdL s) (fun o => o = .ret (.tup []) (rdL (builtS s k op 1 0 1 ns is es))) := by
 have hnl := hs.nm.len
 have hil := hs.ni.len
 have hpl := hs.pt.len
 have hfew := hs.few
 have hple := hs.pt.le
 have hnle := hs.nm.le
 have hile := hs.ni.le
 simp only [List.length_map, encL_length] at hnl hil hpl
 refine conL_of [901] [910, 911, 912, 913] Tryz.func82 rfl (by decide +kernel) (by simp [Tryz.ntmps82]) fun A hA => ?_
 rw [Tryz.ntmps82] at hA
 have d1 : decide ((s.nm.len : Int) - 1 < (s.nm.len : Int)) = true := decide_eq_true (by omega)
 have n1 : ((s.nm.len : Int) - 1).toNat = s.nm.len - 1 := by omega
 have q1 : s.nm.len - (s.nm.len - 1) = 1 := by omega
 have d2 : decide ((s.ni.len : Int) - 0 < (s.ni.len : Int)) = false := decide_eq_false (by omega)
 have n2 : ((s.ni.len : Int) - 0).toNat = s.ni.len - 0 := by omega
 have d3 : decide ((s.pt.len : Int) - 1 < (s.pt.len : Int)) = true := decide_eq_true (by omega)
 have n3 : ((s.pt.len : Int) - 1).toNat = s.pt.len - 1 := by omega
 have q3 : s.pt.len - (s.pt.len - 1) = 1 := by omega
 have rN0 := hs.nm.top 1 0 ⟨#[]⟩ ha (by decide)
 refine goC 2000 ?_
 simp only [go_sem, hA, mixed, d1, n1, q1, d2, n2, d3, n3, q3, rN0, Int.toNat_natCast, Nat.zero_add, Nat.sub_zero]
 refine ⟨by unfold inI64; omega, ⟨by omega, by omega, by omega⟩, by kernel_rfl, ?_⟩
 refine ⟨by unfold inI64; omega, ⟨by omega, by omega, by omega⟩, by kernel_rfl, ?_⟩
 refine ⟨by unfold inI64; omega, ⟨by omega, by omega, by omega⟩, by kernel_rfl, ?_⟩
 refine ⟨by omega, ?_⟩
 refine goExe 2000 (opOk_cloneTop rfl rfl rfl rfl rfl rfl hs.pt hc (by omega)) (by simp only [go_sem, hA]) ?_
 simp only [go_sem, hA, mixed, n1, n2, n3, Nat.zero_add, Nat.sub_zero]
 refine ⟨by unfold inI64; omega, ⟨by omega, by omega⟩, by kernel_rfl, by unfold inI64; omega, ⟨by omega, by omega⟩, by kernel_rfl, by unfold inI64; omega, ⟨by omega, by omega⟩, ?_⟩
 exact ⟨⟨encL_fit [madeE k op 1 0 1 ns is es], by omega, by omega⟩, by kernel_rfl, .tup [], rfl, rfl, rfl⟩
set_option maxRecDepth 100000 in
set_option maxHeartbeats 8000000 in
theorem build_102 (s : RS) (k : Int) (op : ByteArray) (ns : List ByteArray) (is : List Int) (es : List Ex) (hs : Stks s ns is es) (ha : 1 ≤ ns.length) (hc : 2 ≤ es.length) :
  ConL Tryz.prog 82 [.box 901 0, .agg ((encPV ⟨7, ⟨#[]⟩, k, op, 1, 0, 2⟩).map .d)] (rdL s) (fun o => o = .ret (.tup []) (rdL (builtS s k op 1 0 2 ns is es))) := by
 have hnl := hs.nm.len
 have hil := hs.ni.len
 have hpl := hs.pt.len
 have hfew := hs.few
 have hple := hs.pt.le
 have hnle := hs.nm.le
 have hile := hs.ni.le
 simp only [List.length_map, encL_length] at hnl hil hpl
 refine conL_of [901] [910, 911, 912, 913] Tryz.func82 rfl (by decide +kernel) (by simp [Tryz.ntmps82]) fun A hA => ?_
 rw [Tryz.ntmps82] at hA
 have d1 : decide ((s.nm.len : Int) - 1 < (s.nm.len : Int)) = true := decide_eq_true (by omega)
 have n1 : ((s.nm.len : Int) - 1).toNat = s.nm.len - 1 := by omega
 have q1 : s.nm.len - (s.nm.len - 1) = 1 := by omega
 have d2 : decide ((s.ni.len : Int) - 0 < (s.ni.len : Int)) = false := decide_eq_false (by omega)
 have n2 : ((s.ni.len : Int) - 0).toNat = s.ni.len - 0 := by omega
 have d3 : decide ((s.pt.len : Int) - 2 < (s.pt.len : Int)) = true := decide_eq_true (by omega)
 have n3 : ((s.pt.len : Int) - 2).toNat = s.pt.len - 2 := by omega
 have q3 : s.pt.len - (s.pt.len - 2) = 2 := by omega
 have rN0 := hs.nm.top 1 0 ⟨#[]⟩ ha (by decide)
 refine goC 2000 ?_
 simp only [go_sem, hA, mixed, d1, n1, q1, d2, n2, d3, n3, q3, rN0, Int.toNat_natCast, Nat.zero_add, Nat.sub_zero]
 refine ⟨by unfold inI64; omega, ⟨by omega, by omega, by omega⟩, by kernel_rfl, ?_⟩
 refine ⟨by unfold inI64; omega, ⟨by omega, by omega, by omega⟩, by kernel_rfl, ?_⟩
 refine ⟨by unfold inI64; omega, ⟨by omega, by omega, by omega⟩, by kernel_rfl, ?_⟩
 refine ⟨by omega, ?_⟩
 refine goExe 2000 (opOk_cloneTop rfl rfl rfl rfl rfl rfl hs.pt hc (by omega)) (by simp only [go_sem, hA]) ?_
 simp only [go_sem, hA, mixed, n1, n2, n3, Nat.zero_add, Nat.sub_zero]
 refine ⟨by unfold inI64; omega, ⟨by omega, by omega⟩, by kernel_rfl, by unfold inI64; omega, ⟨by omega, by omega⟩, by kernel_rfl, by unfold inI64; omega, ⟨by omega, by omega⟩, ?_⟩
 exact ⟨⟨encL_fit [madeE k op 1 0 2 ns is es], by omega, by omega⟩, by kernel_rfl, .tup [], rfl, rfl, rfl⟩
set_option maxRecDepth 100000 in
set_option maxHeartbeats 8000000 in
theorem build_003 (s : RS) (k : Int) (op : ByteArray) (ns : List ByteArray) (is : List Int) (es : List Ex) (hs : Stks s ns is es) (hc : 3 ≤ es.length) :
  ConL Tryz.prog 82 [.box 901 0, .agg ((encPV ⟨7, ⟨#[]⟩, k, op, 0, 0, 3⟩).map .d)] (rdL s) (fun o => o = .ret (.tup []) (rdL (builtS s k op 0 0 3 ns is es))) := by
 have hnl := hs.nm.len
 have hil := hs.ni.len
 have hpl := hs.pt.len
 have hfew := hs.few
 have hple := hs.pt.le
 have hnle := hs.nm.le
 have hile := hs.ni.le
 simp only [List.length_map, encL_length] at hnl hil hpl
 refine conL_of [901] [910, 911, 912, 913] Tryz.func82 rfl (by decide +kernel) (by simp [Tryz.ntmps82]) fun A hA => ?_
 rw [Tryz.ntmps82] at hA
 have d1 : decide ((s.nm.len : Int) - 0 < (s.nm.len : Int)) = false := decide_eq_false (by omega)
 have n1 : ((s.nm.len : Int) - 0).toNat = s.nm.len - 0 := by omega
 have d2 : decide ((s.ni.len : Int) - 0 < (s.ni.len : Int)) = false := decide_eq_false (by omega)
 have n2 : ((s.ni.len : Int) - 0).toNat = s.ni.len - 0 := by omega
 have d3 : decide ((s.pt.len : Int) - 3 < (s.pt.len : Int)) = true := decide_eq_true (by omega)
 have n3 : ((s.pt.len : Int) - 3).toNat = s.pt.len - 3 := by omega
 have q3 : s.pt.len - (s.pt.len - 3) = 3 := by omega
 refine goC 2000 ?_
 simp only [go_sem, hA, mixed, d1, n1, d2, n2, d3, n3, q3, Int.toNat_natCast, Nat.zero_add, Nat.sub_zero]
 refine ⟨by unfold inI64; omega, ⟨by omega, by omega, by omega⟩, by kernel_rfl, ?_⟩
 refine ⟨by unfold inI64; omega, ⟨by omega, by omega, by omega⟩, by kernel_rfl, ?_⟩
 refine ⟨by unfold inI64; omega, ⟨by omega, by omega, by omega⟩, by kernel_rfl, ?_⟩
 refine goExe 2000 (opOk_cloneTop rfl rfl rfl rfl rfl rfl hs.pt hc (by omega)) (by simp only [go_sem, hA]) ?_
 simp only [go_sem, hA, mixed, n1, n2, n3, Nat.zero_add, Nat.sub_zero]
 refine ⟨by unfold inI64; omega, ⟨by omega, by omega⟩, by kernel_rfl, by unfold inI64; omega, ⟨by omega, by omega⟩, by kernel_rfl, by unfold inI64; omega, ⟨by omega, by omega⟩, ?_⟩
 exact ⟨⟨encL_fit [madeE k op 0 0 3 ns is es], by omega, by omega⟩, by kernel_rfl, .tup [], rfl, rfl, rfl⟩
set_option maxRecDepth 100000 in
set_option maxHeartbeats 8000000 in
theorem build_203 (s : RS) (k : Int) (op : ByteArray) (ns : List ByteArray) (is : List Int) (es : List Ex) (hs : Stks s ns is es) (ha : 2 ≤ ns.length) (hc : 3 ≤ es.length) :
  ConL Tryz.prog 82 [.box 901 0, .agg ((encPV ⟨7, ⟨#[]⟩, k, op, 2, 0, 3⟩).map .d)] (rdL s) (fun o => o = .ret (.tup []) (rdL (builtS s k op 2 0 3 ns is es))) := by
 have hnl := hs.nm.len
 have hil := hs.ni.len
 have hpl := hs.pt.len
 have hfew := hs.few
 have hple := hs.pt.le
 have hnle := hs.nm.le
 have hile := hs.ni.le
 simp only [List.length_map, encL_length] at hnl hil hpl
 refine conL_of [901] [910, 911, 912, 913] Tryz.func82 rfl (by decide +kernel) (by simp [Tryz.ntmps82]) fun A hA => ?_
 rw [Tryz.ntmps82] at hA
 have d1 : decide ((s.nm.len : Int) - 2 < (s.nm.len : Int)) = true := decide_eq_true (by omega)
 have n1 : ((s.nm.len : Int) - 2).toNat = s.nm.len - 2 := by omega
 have q1 : s.nm.len - (s.nm.len - 2) = 2 := by omega
 have d2 : decide ((s.ni.len : Int) - 0 < (s.ni.len : Int)) = false := decide_eq_false (by omega)
 have n2 : ((s.ni.len : Int) - 0).toNat = s.ni.len - 0 := by omega
 have d3 : decide ((s.pt.len : Int) - 3 < (s.pt.len : Int)) = true := decide_eq_true (by omega)
 have n3 : ((s.pt.len : Int) - 3).toNat = s.pt.len - 3 := by omega
 have q3 : s.pt.len - (s.pt.len - 3) = 3 := by omega
 have rN0 := hs.nm.top 2 0 ⟨#[]⟩ ha (by decide)
 have rN1 := hs.nm.top 2 1 ⟨#[]⟩ ha (by decide)
 refine goC 2000 ?_
 simp only [go_sem, hA, mixed, d1, n1, q1, d2, n2, d3, n3, q3, rN0, rN1, Int.toNat_natCast, Nat.zero_add, Nat.sub_zero]
 refine ⟨by unfold inI64; omega, ⟨by omega, by omega, by omega⟩, by kernel_rfl, ?_⟩
 refine ⟨by unfold inI64; omega, ⟨by omega, by omega, by omega⟩, by kernel_rfl, ?_⟩
 refine ⟨by unfold inI64; omega, ⟨by omega, by omega, by omega⟩, by kernel_rfl, ?_⟩
 refine ⟨by omega, by omega, ?_⟩
 refine goExe 2000 (opOk_cloneTop rfl rfl rfl rfl rfl rfl hs.pt hc (by omega)) (by simp only [go_sem, hA]) ?_
 simp only [go_sem, hA, mixed, n1, n2, n3, Nat.zero_add, Nat.sub_zero]
 refine ⟨by unfold inI64; omega, ⟨by omega, by omega⟩, by kernel_rfl, by unfold inI64; omega, ⟨by omega, by omega⟩, by kernel_rfl, by unfold inI64; omega, ⟨by omega, by omega⟩, ?_⟩
 exact ⟨⟨encL_fit [madeE k op 2 0 3 ns is es], by omega, by omega⟩, by kernel_rfl, .tup [], rfl, rfl, rfl⟩
set_option maxRecDepth 100000 in
set_option maxHeartbeats 8000000 in
theorem build_020 (s : RS) (k : Int) (op : ByteArray) (ns : List ByteArray) (is : List Int) (es : List Ex) (hs : Stks s ns is es) (hb : 2 ≤ is.length) :
  ConL Tryz.prog 82 [.box 901 0, .agg ((encPV ⟨7, ⟨#[]⟩, k, op, 0, 2, 0⟩).map .d)] (rdL s) (fun o => o = .ret (.tup []) (rdL (builtS s k op 0 2 0 ns is es))) := by
 have hnl := hs.nm.len
 have hil := hs.ni.len
 have hpl := hs.pt.len
 have hfew := hs.few
 have hple := hs.pt.le
 have hnle := hs.nm.le
 have hile := hs.ni.le
 simp only [List.length_map, encL_length] at hnl hil hpl
 refine conL_of [901] [910, 911, 912, 913] Tryz.func82 rfl (by decide +kernel) (by simp [Tryz.ntmps82]) fun A hA => ?_
 rw [Tryz.ntmps82] at hA
 have d1 : decide ((s.nm.len : Int) - 0 < (s.nm.len : Int)) = false := decide_eq_false (by omega)
 have n1 : ((s.nm.len : Int) - 0).toNat = s.nm.len - 0 := by omega
 have d2 : decide ((s.ni.len : Int) - 2 < (s.ni.len : Int)) = true := decide_eq_true (by omega)
 have n2 : ((s.ni.len : Int) - 2).toNat = s.ni.len - 2 := by omega
 have q2 : s.ni.len - (s.ni.len - 2) = 2 := by omega
 have d3 : decide ((s.pt.len : Int) - 0 < (s.pt.len : Int)) = false := decide_eq_false (by omega)
 have n3 : ((s.pt.len : Int) - 0).toNat = s.pt.len - 0 := by omega
 have rI0 := hs.ni.top 2 0 0 hb (by decide)
 have rI1 := hs.ni.top 2 1 0 hb (by decide)
 refine goC 2000 ?_
 simp only [go_sem, hA, mixed, d1, n1, d2, n2, q2, d3, n3, rI0, rI1, Int.toNat_natCast, Nat.zero_add, Nat.sub_zero]
 refine ⟨by unfold inI64; omega, ⟨by omega, by omega, by omega⟩, by kernel_rfl, ?_⟩
 refine ⟨by unfold inI64; omega, ⟨by omega, by omega, by omega⟩, by kernel_rfl, ?_⟩
 refine ⟨by unfold inI64; omega, ⟨by omega, by omega, by omega⟩, by kernel_rfl, ?_⟩
 refine ⟨by omega, by omega, by kernel_rfl, ?_⟩
 refine goExe 2000 (x := .d (.sl (encL (es.drop es.length)))) (by rw [List.drop_length]; exact opOk_cloneNil rfl rfl rfl rfl rfl) (by simp only [go_sem, hA]) ?_
 simp only [go_sem, hA, mixed, n1, n2, n3, Nat.zero_add, Nat.sub_zero]
 refine ⟨by unfold inI64; omega, ⟨by omega, by omega⟩, by kernel_rfl, by unfold inI64; omega, ⟨by omega, by omega⟩, by kernel_rfl, by unfold inI64; omega, ⟨by omega, by omega⟩, ?_⟩
 exact ⟨⟨encL_fit [madeE k op 0 2 0 ns is es], by omega, by omega⟩, by kernel_rfl, .tup [], rfl, rfl, rfl⟩
set_option maxRecDepth 100000 in
set_option maxHeartbeats 8000000 in
theorem build_002 (s : RS) (k : Int) (op : ByteArray) (ns : List ByteArray) (is : List Int) (es : List Ex) (hs : Stks s ns is es) (hc : 2 ≤ es.length) :
  ConL Tryz.prog 82 [.box 901 0, .agg ((encPV ⟨7, ⟨#[]⟩, k, op, 0, 0, 2⟩).map .d)] (rdL s) (fun o => o = .ret (.tup []) (rdL (builtS s k op 0 0 2 ns is es))) := by
 have hnl := hs.nm.len
 have hil := hs.ni.len
 have hpl := hs.pt.len
 have hfew := hs.few
 have hple := hs.pt.le
 have hnle := hs.nm.le
 have hile := hs.ni.le
 simp only [List.length_map, encL_length] at hnl hil hpl
 refine conL_of [901] [910, 911, 912, 913] Tryz.func82 rfl (by decide +kernel) (by simp [Tryz.ntmps82]) fun A hA => ?_
 rw [Tryz.ntmps82] at hA
 have d1 : decide ((s.nm.len : Int) - 0 < (s.nm.len : Int)) = false := decide_eq_false (by omega)
 have n1 : ((s.nm.len : Int) - 0).toNat = s.nm.len - 0 := by omega
 have d2 : decide ((s.ni.len : Int) - 0 < (s.ni.len : Int)) = false := decide_eq_false (by omega)
 have n2 : ((s.ni.len : Int) - 0).toNat = s.ni.len - 0 := by omega
 have d3 : decide ((s.pt.len : Int) - 2 < (s.pt.len : Int)) = true := decide_eq_true (by omega)
 have n3 : ((s.pt.len : Int) - 2).toNat = s.pt.len - 2 := by omega
 have q3 : s.pt.len - (s.pt.len - 2) = 2 := by omega
 refine goC 2000 ?_
 simp only [go_sem, hA, mixed, d1, n1, d2, n2, d3, n3, q3, Int.toNat_natCast, Nat.zero_add, Nat.sub_zero]
 refine ⟨by unfold inI64; omega, ⟨by omega, by omega, by omega⟩, by kernel_rfl, ?_⟩
 refine ⟨by unfold inI64; omega, ⟨by omega, by omega, by omega⟩, by kernel_rfl, ?_⟩
 refine ⟨by unfold inI64; omega, ⟨by omega, by omega, by omega⟩, by kernel_rfl, ?_⟩
 refine goExe 2000 (opOk_cloneTop rfl rfl rfl rfl rfl rfl hs.pt hc (by omega)) (by simp only [go_sem, hA]) ?_
 simp only [go_sem, hA, mixed, n1, n2, n3, Nat.zero_add, Nat.sub_zero]
 refine ⟨by unfold inI64; omega, ⟨by omega, by omega⟩, by kernel_rfl, by unfold inI64; omega, ⟨by omega, by omega⟩, by kernel_rfl, by unfold inI64; omega, ⟨by omega, by omega⟩, ?_⟩
 exact ⟨⟨encL_fit [madeE k op 0 0 2 ns is es], by omega, by omega⟩, by kernel_rfl, .tup [], rfl, rfl, rfl⟩
end
end Go.Proofs.YtnnolijagpakiaaGreatDoor
