/- GreatUses, GreatDecls, GreatSource of the reference of layer 21, walked. What a source that is not too great has; texts of sources. -/
import Derived.Test.YtnphcjpccieljaaGreatDoorGYf
import Derived.Test.YtnphcjpccieljaaGreatDoorGXv
import Derived.Test.YtnphcjpccieljaaGreatDoorGPl
namespace Go.Proofs.YtnphcjpccieljaaGreatDoor
open Go Go.RowKit
theorem any_step {α : Type} {p : α → Bool} {l : List α} {q : Nat} (hq : q < l.length) (h : (l.take q).any p = false) (h1 : p l[q] = false) : (l.take (q + 1)).any p = false := by
  rw [List.take_succ_eq_append_getElem hq, List.any_append, h]
  simp [h1]
theorem any_hit {α : Type} {p : α → Bool} {l : List α} {q : Nat} (hq : q < l.length) (h1 : p l[q] = true) : l.any p = true := List.any_eq_true.2 ⟨l[q], List.getElem_mem hq, h1⟩
def greatU (l : List ByteArray) : Bool := decide (10 < l.length) || l.any fun s => decide (120 < s.size)
def greatDc (d : Dc) : Bool := decide (5 < d.names.length) || greatE d.body || d.names.any fun s => decide (100 < s.size)
def greatDs (l : List Dc) : Bool := decide (8 < l.length) || l.any greatDc
def greatS (x : Sr) : Bool := greatU x.uses || greatDs x.decls
abbrev guSt (l : List ByteArray) (q : Nat) : St := ⟨[(0, .d (.sl (encS l))), (3, .d (.raw (.int .i64 q)))], [], []⟩
set_option maxRecDepth 100000 in
set_option maxHeartbeats 8000000 in
theorem rGreatUses_c (l : List ByteArray) : Con Tryz.prog 36 [.d (.sl (encS l))] (.d (.raw (.bool (greatU l)))) := by
  refine con_of Tryz.func36 rfl (by decide +kernel) rfl rfl (by simp [Tryz.ntmps36]) fun A hA => ?_
  rw [Tryz.ntmps36] at hA
  refine goC 400 ?_
  by_cases h1 : 10 < l.length
  · have g1 : decide ((10 : Int) < (l.length : Int)) = true := decide_eq_true (by omega)
    have he : greatU l = true := by unfold greatU; rw [decide_eq_true h1]; rfl
    simp only [go_sem, hA, encS_length, g1, he, Tryz.results36]
  have g1 : decide ((10 : Int) < (l.length : Int)) = false := decide_eq_false (by omega)
  have he : greatU l = l.any fun s => decide (120 < s.size) := by unfold greatU; rw [decide_eq_false h1]; rfl
  simp only [go_sem, hA, encS_length, g1]
  refine satC_loop [0, 3] [] [] (fun y σ => ∃ q : Nat, q ≤ l.length ∧ y = l.length - q ∧ ((l.take q).any fun s => decide (120 < s.size)) = false ∧ σ = guSt l q) l.length ⟨0, by omega, by omega, rfl, by simp only [go_sem, guSt]⟩ ?_
  rintro y σ ⟨q, hq, rfl, hf, rfl⟩
  refine goC 400 ?_
  by_cases hlt : q < l.length
  · have k1 : decide ((q : Int) < (l.length : Int)) = true := decide_eq_true (by omega)
    by_cases h2 : 120 < l[q].size
    · have k2 : decide ((120 : Int) < (l[q].size : Int)) = true := decide_eq_true (by omega)
      rw [any_hit hlt (decide_eq_true h2)] at he
      simp only [go_sem, hA, guSt, encS_length, k1, Int.toNat_natCast, encS_at l q hlt, k2, he, Tryz.results36]
      exact ⟨by omega, by omega⟩
    · have k2 : decide ((120 : Int) < (l[q].size : Int)) = false := decide_eq_false (by omega)
      simp only [go_sem, hA, guSt, encS_length, k1, Int.toNat_natCast, encS_at l q hlt, k2]
      exact ⟨⟨by omega, by omega⟩, by unfold inI64; omega, l.length - (q + 1), by omega, q + 1, by omega, rfl, any_step hlt hf (decide_eq_false h2), rfl⟩
  · have k1 : decide ((q : Int) < (l.length : Int)) = false := decide_eq_false (by omega)
    obtain rfl : q = l.length := by omega
    rw [List.take_length] at hf
    rw [hf] at he
    simp only [go_sem, hA, guSt, encS_length, k1, he, Tryz.results36]
abbrev gdSt (l : List Dc) (q : Nat) : St := ⟨[(0, .d (.sl (encDs l))), (3, .d (.raw (.int .i64 q)))], [], []⟩
abbrev gd2St (l : List Dc) (q k : Nat) : St := ⟨[(0, .d (.sl (encDs l))), (3, .d (.raw (.int .i64 q))), (4, .d (.raw (.int .i64 k)))], [], []⟩
set_option maxRecDepth 100000 in
set_option maxHeartbeats 8000000 in
theorem rGreatDecls_c (l : List Dc) (hb : ∀ d ∈ l, nodesE d.body ≤ 1048576) : Con Tryz.prog 37 [.d (.sl (encDs l))] (.d (.raw (.bool (greatDs l)))) := by
  refine con_of Tryz.func37 rfl (by decide +kernel) rfl rfl (by simp [Tryz.ntmps37]) fun A hA => ?_
  rw [Tryz.ntmps37] at hA
  refine goC 400 ?_
  by_cases h1 : 8 < l.length
  · have g1 : decide ((8 : Int) < (l.length : Int)) = true := decide_eq_true (by omega)
    have he : greatDs l = true := by unfold greatDs; rw [decide_eq_true h1]; rfl
    simp only [go_sem, hA, encDs_length, g1, he, Tryz.results37]
  have g1 : decide ((8 : Int) < (l.length : Int)) = false := decide_eq_false (by omega)
  have he : greatDs l = l.any greatDc := by unfold greatDs; rw [decide_eq_false h1]; rfl
  simp only [go_sem, hA, encDs_length, g1]
  refine satC_loop [0, 3] [] [] (fun y σ => ∃ q : Nat, q ≤ l.length ∧ y = l.length - q ∧ (l.take q).any greatDc = false ∧ σ = gdSt l q) l.length ⟨0, by omega, by omega, rfl, by simp only [go_sem, gdSt]⟩ ?_
  rintro y σ ⟨q, hq, rfl, hf, rfl⟩
  refine goC 400 ?_
  by_cases hlt : q < l.length
  case neg =>
    have k1 : decide ((q : Int) < (l.length : Int)) = false := decide_eq_false (by omega)
    obtain rfl : q = l.length := by omega
    rw [List.take_length] at hf
    rw [hf] at he
    simp only [go_sem, hA, gdSt, encDs_length, k1, he, Tryz.results37]
  have k1 : decide ((q : Int) < (l.length : Int)) = true := decide_eq_true (by omega)
  obtain ⟨d, hd⟩ : ∃ d, l[q] = d := ⟨_, rfl⟩
  have cg := rGreat_c d.body (hb d (by rw [← hd]; exact List.getElem_mem hlt))
  have hhit : greatDc d = true → greatDs l = true := fun h => by rw [he]; exact any_hit hlt (by rw [hd]; exact h)
  by_cases h2 : 5 < d.names.length
  · have k2 : decide ((5 : Int) < (d.names.length : Int)) = true := decide_eq_true (by omega)
    have hr := hhit (by unfold greatDc; rw [decide_eq_true h2]; rfl)
    simp only [go_sem, hA, gdSt, encDs_length, encS_length, k1, Int.toNat_natCast, encDs_at l q hlt, hd, encD, k2, undef, hr, Tryz.results37]
    exact ⟨by omega, by omega⟩
  have k2 : decide ((5 : Int) < (d.names.length : Int)) = false := decide_eq_false (by omega)
  simp only [go_sem, hA, gdSt, encDs_length, encS_length, k1, Int.toNat_natCast, encDs_at l q hlt, hd, encD, k2]
  refine ⟨⟨by omega, by omega⟩, ⟨by omega, by omega⟩, ?_⟩
  refine goCall 300 cg rfl (by simp only [go_sem, avE_eq]) (by simp only [go_sem, hA]) ?_
  cases hg : greatE d.body with
  | true =>
    have hr := hhit (by unfold greatDc; rw [hg]; simp)
    simp only [go_sem, hA, hr, Tryz.results37]
  | false =>
    have hdc : greatDc d = d.names.any fun s => decide (100 < s.size) := by unfold greatDc; rw [hg, decide_eq_false h2]; rfl
    simp only [go_sem, hA]
    refine satC_loop [0, 3, 4] [] [] (fun y σ => ∃ k : Nat, k ≤ d.names.length ∧ y = d.names.length - k ∧ ((d.names.take k).any fun s => decide (100 < s.size)) = false ∧ σ = gd2St l q k) d.names.length ⟨0, by omega, by omega, rfl, by simp only [go_sem, gd2St]⟩ ?_
    rintro y σ ⟨k, hk, rfl, hf2, rfl⟩
    refine goC 400 ?_
    by_cases hkl : k < d.names.length
    · have k3 : decide ((k : Int) < (d.names.length : Int)) = true := decide_eq_true (by omega)
      by_cases h4 : 100 < d.names[k].size
      · have k4 : decide ((100 : Int) < (d.names[k].size : Int)) = true := decide_eq_true (by omega)
        have hr := hhit (by rw [hdc]; exact any_hit hkl (decide_eq_true h4))
        simp only [go_sem, hA, gd2St, encDs_length, encS_length, k3, Int.toNat_natCast, encDs_at l q hlt, hd, encD, encS_at d.names k hkl, k4, hr, Tryz.results37]
        exact ⟨⟨by omega, by omega⟩, ⟨by omega, by omega⟩, by omega, by omega⟩
      · have k4 : decide ((100 : Int) < (d.names[k].size : Int)) = false := decide_eq_false (by omega)
        simp only [go_sem, hA, gd2St, encDs_length, encS_length, k3, Int.toNat_natCast, encDs_at l q hlt, hd, encD, encS_at d.names k hkl, k4]
        exact ⟨⟨by omega, by omega⟩, ⟨by omega, by omega⟩, ⟨by omega, by omega⟩, by unfold inI64; omega, d.names.length - (k + 1), by omega, k + 1, by omega, rfl, any_step hkl hf2 (decide_eq_false h4), rfl⟩
    · have k3 : decide ((k : Int) < (d.names.length : Int)) = false := decide_eq_false (by omega)
      obtain rfl : k = d.names.length := by omega
      rw [List.take_length] at hf2
      simp only [go_sem, hA, gd2St, encDs_length, encS_length, k3, Int.toNat_natCast, encDs_at l q hlt, hd, encD]
      exact ⟨⟨by omega, by omega⟩, by unfold inI64; omega, l.length - (q + 1), by omega, q + 1, by omega, rfl, any_step hlt hf (by rw [hd, hdc]; exact hf2), rfl⟩
set_option maxRecDepth 100000 in
set_option maxHeartbeats 8000000 in
theorem rGreatSource_c (x : Sr) (hb : ∀ d ∈ x.decls, nodesE d.body ≤ 1048576) : Con Tryz.prog 11 [avS x] (.d (.raw (.bool (greatS x)))) := by
  have cu := rGreatUses_c x.uses
  have cd := rGreatDecls_c x.decls hb
  refine con_of Tryz.func11 rfl (by decide +kernel) rfl rfl (by simp [Tryz.ntmps11]) fun A hA => ?_
  rw [Tryz.ntmps11] at hA
  refine goC 400 ?_
  simp only [go_sem, hA, avS]
  refine goCall 300 cu rfl (by simp only [go_sem]) (by simp only [go_sem, hA]) ?_
  cases h : greatU x.uses with
  | true =>
    have hr : greatS x = true := by unfold greatS; rw [h]; rfl
    simp only [go_sem, hA, undef, hr, Tryz.results11]
  | false =>
    have hr : greatS x = greatDs x.decls := by unfold greatS; rw [h]; rfl
    simp only [go_sem, hA]
    refine goCall 300 cd rfl (by simp only [go_sem]) (by simp only [go_sem, hA]) ?_
    cases h2 : greatDs x.decls <;> rw [h2] at hr <;> simp only [go_sem, hA, hr, Tryz.results11]
end Go.Proofs.YtnphcjpccieljaaGreatDoor

namespace Go.Proofs.YtnphcjpccieljaaGreatDoor
open Go Go.RowKit
theorem greatDs_nodes {l : List Dc} (h : greatDs l = false) : ∀ d ∈ l, nodesE d.body ≤ 40 := fun d hd => by
  simp only [greatDs, Bool.or_eq_false_iff] at h
  have h1 : greatDc d = false := by
    cases hg : greatDc d with
    | false => rfl
    | true => rw [List.any_eq_true.2 ⟨d, hd, hg⟩] at h; exact absurd h.2 (by simp)
  simp only [greatDc, Bool.or_eq_false_iff] at h1
  have h2 := h1.1.2
  simp only [greatE, Bool.or_eq_false_iff, decide_eq_false_iff_not] at h2
  omega
theorem greatS_nodes {x : Sr} (h : greatS x = false) : ∀ d ∈ x.decls, nodesE d.body ≤ 40 := by
  simp only [greatS, Bool.or_eq_false_iff] at h
  exact greatDs_nodes h.2
theorem textX_bad {x : Sr} (h : (textX x).2 ≠ 0) : (textX x).1 = ⟨#[]⟩ := by
  unfold textX at h ⊢
  split
  · split
    · rfl
    · rename_i h1 h2; rw [if_pos h1, if_neg h2] at h; exact absurd rfl h
  · rfl
theorem textX_ok {x : Sr} (h : (textX x).2 = 0) : OkSr x ∧ (textX x).1 = ⟨(catL (srcParts x)).toArray⟩ ∧ (catL (srcParts x)).length ≤ 65536 := by
  unfold textX at h ⊢
  by_cases h1 : srcX sdeclX x = 0
  · rw [if_pos h1] at h ⊢
    by_cases h2 : 65536 < (catL (srcParts x)).length
    · rw [if_pos h2] at h; exact absurd h (by decide)
    · rw [if_neg h2]
      exact ⟨src_ok h1, rfl, by omega⟩
  · rw [if_neg h1] at h; exact absurd h h1
theorem greatS_names {x : Sr} (h : greatS x = false) : x.uses.length ≤ 10 ∧ x.decls.length ≤ 8 ∧ ∀ d ∈ x.decls, d.names.length ≤ 5 := by
  simp only [greatS, greatU, greatDs, Bool.or_eq_false_iff, decide_eq_false_iff_not] at h
  refine ⟨by omega, by omega, fun d hd => ?_⟩
  have h1 : greatDc d = false := by
    cases hg : greatDc d with
    | false => rfl
    | true => rw [List.any_eq_true.2 ⟨d, hd, hg⟩] at h; exact absurd h.2.2 (by simp)
  simp only [greatDc, Bool.or_eq_false_iff, decide_eq_false_iff_not] at h1
  omega
end Go.Proofs.YtnphcjpccieljaaGreatDoor
