/- Texts of this proof, part 22: what the proof uses of them. -/
import Derived.Test.YtnnolijagpakiaaGreatDoorRao
import Derived.Test.YtnnolijagpakiaaGreatDoorRap
import Derived.Test.YtnnolijagpakiaaGreatDoorRam
namespace Go.Proofs.YtnnolijagpakiaaGreatDoor
open Go Go.RowKit
def joinB (l : List ByteArray) (sep : List UInt8) : ByteArray := ⟨(Lib.join (l.map fun s => s.data.toList) sep).toArray⟩
def nilS (s : ByteArray) : ByteArray := if s = ⟨#[]⟩ then bs [110, 105, 108] else s
theorem joinB_nil (sep : List UInt8) : joinB [] sep = ⟨#[]⟩ := rfl
def namesB (l : List ByteArray) : ByteArray := joinB (l.map nilS) [32, 124, 124, 32]
theorem joinB_size (sep : List UInt8) : ∀ l : List ByteArray, (joinB l sep).size ≤ sumB l + l.length * sep.length
 | [] => by simp [joinB_nil]; exact Nat.le_refl _
 | x :: l => by
  have h : ∀ l : List ByteArray, ((Lib.joinTail sep (l.map fun s => s.data.toList))).length = sumB l + l.length * sep.length := fun l => by
   induction l with
   | nil => simp [Lib.joinTail, sumB]
   | cons y l ih =>
    have hy : y.data.toList.length = y.size := rfl
    simp only [Lib.joinTail, List.map_cons, List.flatten_cons, List.length_append, sumB, List.length_cons, hy] at ih ⊢
    rw [ih, Nat.succ_mul]; omega
  have hx : x.data.toList.length = x.size := rfl
  unfold joinB
  rw [List.map_cons, Lib.join_cons]
  show (x.data.toList ++ _).toArray.size ≤ _
  rw [List.size_toArray, List.length_append, h l, hx]
  simp only [sumB, List.length_cons, Nat.succ_mul]
  omega
theorem nilS_size (s : ByteArray) : (nilS s).size ≤ s.size + 3 := by
 unfold nilS
 split
 ·rw [bs_size]; simp
 ·omega
theorem sumB_nil : ∀ l : List ByteArray, sumB (l.map nilS) ≤ sumB l + 3 * l.length
 | [] => by simp [sumB]
 | s :: l => by
  have h1 := nilS_size s
  have h2 := sumB_nil l
  simp only [List.map_cons, sumB, List.length_cons]
  omega
theorem namesB_size (l : List ByteArray) : (namesB l).size ≤ sumB l + 7 * l.length := by
 have h1 := joinB_size [32, 124, 124, 32] (l.map nilS)
 have h2 := sumB_nil l
 unfold namesB
 simp only [List.length_map, List.length_cons, List.length_nil] at h1
 omega
theorem sumB_take : ∀ (l : List ByteArray) (q : Nat), sumB (l.take q) ≤ sumB l
 | [], q => by simp
 | s :: l, 0 => by simp [sumB]
 | s :: l, q + 1 => by
  have := sumB_take l q
  simp only [List.take_succ_cons, sumB]
  omega
def kindW (k : Int) : ByteArray := if k = 1 then bs [108, 101, 116] else if k = 2 then bs [116, 101, 115, 116] else bs [102, 108, 97, 107, 121]
def preD (x : Dc) : List ByteArray := (if x.doubt then [bs [99, 111, 110, 102, 108, 105, 99, 116]] else []) ++ (if x.pub then [bs [112, 117, 98]] else [])
def midD (x : Dc) : List ByteArray := preD x ++ [kindW x.kind] ++ [joinB (x.names.map nilS) [32, 124, 124, 32]]
def dParts (x : Dc) : List ByteArray := midD x ++ (if x.id = 0 then [] else [bs [64] ++ itoaB x.id]) ++ [bs [61], txE x.body, bs [59]]
def dLine (x : Dc) : ByteArray := joinB (dParts x) [32] ++ bs [10]
theorem sumB_append : ∀ a b : List ByteArray, sumB (a ++ b) = sumB a + sumB b
 | [], b => by simp [sumB]
 | x :: a, b => by simp [sumB, sumB_append a b]; omega
structure OkD (x : Dc) : Prop where
 id : 0 ≤ x.id ∧ x.id ≤ 999999
 kind : 1 ≤ x.kind ∧ x.kind ≤ 3
 len : x.names.length = 1 ∨ x.names.length = 3
 nm : ∀ s ∈ x.names, nameB s = true ∨ (x.names.length = 3 ∧ s = ⟨#[]⟩)
 chk : checkX x.body = 0
 ref : kindsE 5 x.body = false
theorem sdecl_ok {x : Dc} (h : sdeclX x = 0) : OkD x := by
 unfold sdeclX at h
 split at h
 ·exact absurd h (by decide)
 rename_i h1
 split at h
 ·exact absurd h (by decide)
 rename_i h2
 split at h
 ·rename_i h3; exact absurd h h3
 rename_i h3
 split at h
 ·rename_i h4; exact absurd h h4
 rename_i h4
 split at h
 ·exact absurd h (by decide)
 rename_i h5
 have h3 : namesX x.names = 0 := Decidable.of_not_not h3
 unfold namesX at h3
 split at h3
 ·exact absurd h3 (by decide)
 rename_i h6
 split at h3
 ·exact absurd h3 (by decide)
 rename_i h7
 refine ⟨by omega, by omega, by omega, fun s hs => ?_, Decidable.of_not_not h4, by simpa using h5⟩
 have h8 : badName x.names s = false := by
  cases hb : badName x.names s with
  | false => rfl
  | true => exact absurd (List.any_eq_true.2 ⟨s, hs, hb⟩) h7
 unfold badName at h8
 cases hn : nameB s with
 | true => exact .inl rfl
 | false =>
  simp only [hn, Bool.not_false, Bool.true_and, Bool.or_eq_false_iff, decide_eq_false_iff_not, Decidable.not_not] at h8
  exact .inr ⟨by omega, h8.2⟩
theorem firstN_zero {f : Nat → Int} : ∀ {n : Nat}, firstN f n = 0 → ∀ i, i < n → f i = 0
 | 0, _, i, hi => by omega
 | n + 1, h, i, hi => by
  rw [firstN] at h
  split at h
  ·rename_i h0
   by_cases e : i = n
   ·subst e; exact h
   ·exact firstN_zero h0 i (by omega)
  ·rename_i h0; exact absurd h h0
structure OkSr (x : Sr) : Prop where
 uses : x.uses.length ≤ 20
 lab : ∀ s ∈ x.uses, labelL s.data.toList = true
 decls : x.decls.length ≤ 100
 dec : ∀ d ∈ x.decls, OkD d
theorem src_ok {x : Sr} (h : srcX sdeclX x = 0) : OkSr x := by
 unfold srcX at h
 split at h
 ·exact absurd h (by decide)
 rename_i h1
 split at h
 ·rename_i h2; exact absurd h h2
 rename_i h2
 split at h
 ·exact absurd h (by decide)
 rename_i h3
 have h2 : firstN (useE x.uses) x.uses.length = 0 := Decidable.of_not_not h2
 refine ⟨by omega, fun s hs => ?_, by omega, fun d hd => ?_⟩
 ·obtain ⟨i, hi, rfl⟩ := List.getElem_of_mem hs
  have h4 := firstN_zero h2 i hi
  unfold useE at h4
  rw [atB_get x.uses i hi] at h4
  split at h4
  ·rename_i h5; exact h5
  ·exact absurd h4 (by decide)
 ·obtain ⟨i, hi, rfl⟩ := List.getElem_of_mem hd
  have h4 := firstN_zero h i hi
  unfold declE at h4
  rw [atD_get x.decls i hi] at h4
  split at h4
  ·rename_i h5; exact absurd h4 h5
  ·rename_i h5; exact sdecl_ok (Decidable.of_not_not h5)
theorem OkD.nmsum {x : Dc} (h : OkD x) : sumB x.names ≤ 24 * x.names.length := by
 have : ∀ l : List ByteArray, (∀ s ∈ l, s.size ≤ 24) → sumB l ≤ 24 * l.length := fun l => by
  induction l with
  | nil => intro _; simp [sumB]
  | cons s l ih =>
   intro hl
   have h1 := hl s (by simp)
   have h2 := ih fun t ht => hl t (by simp [ht])
   simp only [sumB, List.length_cons]
   omega
 refine this _ fun s hs => ?_
 rcases h.nm s hs with h1 | ⟨_, rfl⟩
 ·exact nameB_size h1
 ·show 0 ≤ 24; omega
theorem kindW_size (k : Int) : (kindW k).size ≤ 5 := by
 unfold kindW
 split
 ·rw [bs_size]; simp
 ·split
  ·rw [bs_size]; simp
  ·rw [bs_size]; simp
theorem OkD.size {x : Dc} (h : OkD x) : (joinB (dParts x) [32]).size ≤ 157000 := by
 have h1 := joinB_size [32] (dParts x)
 have h2 := h.nmsum
 have h3 := namesB_size x.names
 have h4 := txE_size x.body (fullE_ok _ (checkX_full h.chk h.ref))
 have h5 := (checkX_E h.chk).2.1
 have h6 := itoaB_size x.id (by have := h.id; unfold inI64; omega)
 have h7 := kindW_size x.kind
 have h8 : x.names.length ≤ 3 := by have := h.len; omega
 have h9 : sumB (dParts x) ≤ 8 + 3 + 5 + (namesB x.names).size + 22 + 1 + (txE x.body).size + 1 ∧ (dParts x).length ≤ 8 := by
  unfold dParts midD preD namesB
  simp only [sumB_append, List.length_append]
  refine ⟨?_, ?_⟩
  ·have a1 : sumB (if x.doubt = true then [bs [99, 111, 110, 102, 108, 105, 99, 116]] else []) ≤ 8 := by split <;> simp [sumB, bs_size]
   have a2 : sumB (if x.pub = true then [bs [112, 117, 98]] else []) ≤ 3 := by split <;> simp [sumB, bs_size]
   have a3 : sumB (if x.id = 0 then [] else [bs [64] ++ itoaB x.id]) ≤ 22 := by
    split
    ·simp [sumB]
    ·simp only [sumB, ba_size, bs_size, List.length_cons, List.length_nil]; omega
   simp only [sumB, bs_size, List.length_cons, List.length_nil] at a1 a2 a3 ⊢
   omega
  ·have a1 : (if x.doubt = true then [bs [99, 111, 110, 102, 108, 105, 99, 116]] else []).length ≤ 1 := by split <;> simp
   have a2 : (if x.pub = true then [bs [112, 117, 98]] else []).length ≤ 1 := by split <;> simp
   have a3 : (if x.id = 0 then [] else [bs [64] ++ itoaB x.id]).length ≤ 1 := by split <;> simp
   simp only [List.length_cons, List.length_nil] at a1 a2 a3 ⊢
   omega
 simp only [List.length_cons, List.length_nil] at h1
 omega
def useB (s : ByteArray) : ByteArray := bs [117, 115, 101, 32] ++ s ++ bs [32, 59, 10]
def catL (l : List ByteArray) : List UInt8 := (l.map fun s => s.data.toList).flatten
theorem catL_nil : catL [] = [] := rfl
theorem catL_append (a b : List ByteArray) : catL (a ++ b) = catL a ++ catL b := by simp [catL]
theorem catL_one (s : ByteArray) : catL [s] = s.data.toList := by simp [catL]
theorem catL_length : ∀ l : List ByteArray, (catL l).length = sumB l
 | [] => rfl
 | s :: l => by
  have hs : s.data.toList.length = s.size := rfl
  have := catL_length l
  simp only [catL, List.map_cons, List.flatten_cons, List.length_append, sumB, hs] at this ⊢
  rw [this]
def srcParts (x : Sr) : List ByteArray := x.uses.map useB ++ x.decls.map dLine
def textX (x : Sr) : ByteArray × Int := if srcX sdeclX x = 0 then (if 65536 < (catL (srcParts x)).length then (⟨#[]⟩, 4) else (⟨(catL (srcParts x)).toArray⟩, 0)) else (⟨#[]⟩, srcX sdeclX x)
theorem label_size {s : ByteArray} (h : labelL s.data.toList = true) : s.size ≤ 90 := by
 simp only [labelL, Bool.and_eq_true, decide_eq_true_eq] at h
 exact h.1
theorem sumB_le {n : Nat} : ∀ l : List ByteArray, (∀ s ∈ l, s.size ≤ n) → sumB l ≤ n * l.length
 | [], _ => by simp [sumB]
 | s :: l, h => by
  have h1 := h s (by simp)
  have h2 := sumB_le l fun t ht => h t (by simp [ht])
  simp only [sumB, List.length_cons, Nat.mul_succ]
  omega
theorem OkSr.uses_size {x : Sr} (h : OkSr x) : sumB (x.uses.map useB) ≤ 1940 := by
 have h1 := sumB_le (n := 97) (x.uses.map useB) fun s hs => by
  obtain ⟨t, ht, rfl⟩ := List.mem_map.1 hs
  have := label_size (h.lab t ht)
  simp only [useB, ba_size, bs_size, List.length_cons, List.length_nil]
  omega
 have := h.uses
 rw [List.length_map] at h1
 omega
theorem OkD.line_size {x : Dc} (h : OkD x) : (dLine x).size ≤ 157001 := by
 have := h.size
 unfold dLine
 rw [ba_size, bs_size]
 show (joinB (dParts x) [32]).size + 1 ≤ 157001
 omega
end Go.Proofs.YtnnolijagpakiaaGreatDoor
namespace Go.Proofs.YtnnolijagpakiaaGreatDoor
open Go Go.RowKit
theorem any_step {α : Type} {p : α → Bool} {l : List α} {q : Nat} (hq : q < l.length) (h : (l.take q).any p = false) (h1 : p l[q] = false) : (l.take (q + 1)).any p = false := by
 rw [List.take_succ_eq_append_getElem hq, List.any_append, h]
 simp [h1]
theorem any_hit {α : Type} {p : α → Bool} {l : List α} {q : Nat} (hq : q < l.length) (h1 : p l[q] = true) : l.any p = true := List.any_eq_true.2 ⟨l[q], List.getElem_mem hq, h1⟩
def greatU (l : List ByteArray) : Bool := decide (10 < l.length) || l.any fun s => decide (120 < s.size)
def greatDc (d : Dc) : Bool := decide (5 < d.names.length) || greatE d.body || d.names.any fun s => decide (100 < s.size)
def greatDs (l : List Dc) : Bool := decide (8 < l.length) || l.any greatDc
def greatS (x : Sr) : Bool := greatU x.uses || greatDs x.decls
abbrev guSt (l : List ByteArray) (q : Nat) : St := ⟨[(0, .d (.sl (encS l))), (3, .d (.raw (.int .i64 q)))], [], []⟩
set_option maxRecDepth 100000 in
set_option maxHeartbeats 8000000 in
theorem rGreatUses_c (l : List ByteArray) : Con Tryz.prog 51 [.d (.sl (encS l))] (.d (.raw (.bool (greatU l)))) := by
 refine con_of Tryz.func51 rfl (by decide +kernel) rfl rfl (by simp [Tryz.ntmps51]) fun A hA => ?_
 rw [Tryz.ntmps51] at hA
 refine goC 400 ?_
 by_cases h1 : 10 < l.length
 ·have g1 : decide ((10 : Int) < (l.length : Int)) = true := decide_eq_true (by omega)
  have he : greatU l = true := by unfold greatU; rw [decide_eq_true h1]; rfl
  simp only [go_sem, hA, encS_length, g1, he, Tryz.results51]
 have g1 : decide ((10 : Int) < (l.length : Int)) = false := decide_eq_false (by omega)
 have he : greatU l = l.any fun s => decide (120 < s.size) := by unfold greatU; rw [decide_eq_false h1]; rfl
 simp only [go_sem, hA, encS_length, g1]
 refine satC_loop [0, 3] [] [] (fun y σ => ∃ q : Nat, q ≤ l.length ∧ y = l.length - q ∧ ((l.take q).any fun s => decide (120 < s.size)) = false ∧ σ = guSt l q) l.length ⟨0, by omega, by omega, rfl, by simp only [go_sem, guSt]⟩ ?_
 rintro y σ ⟨q, hq, rfl, hf, rfl⟩
 refine goC 400 ?_
 by_cases hlt : q < l.length
 ·have k1 : decide ((q : Int) < (l.length : Int)) = true := decide_eq_true (by omega)
  by_cases h2 : 120 < l[q].size
  ·have k2 : decide ((120 : Int) < (l[q].size : Int)) = true := decide_eq_true (by omega)
   rw [any_hit hlt (decide_eq_true h2)] at he
   simp only [go_sem, hA, guSt, encS_length, k1, Int.toNat_natCast, encS_at l q hlt, k2, he, Tryz.results51]
   exact ⟨by omega, by omega⟩
  ·have k2 : decide ((120 : Int) < (l[q].size : Int)) = false := decide_eq_false (by omega)
   simp only [go_sem, hA, guSt, encS_length, k1, Int.toNat_natCast, encS_at l q hlt, k2]
   exact ⟨⟨by omega, by omega⟩, by unfold inI64; omega, l.length - (q + 1), by omega, q + 1, by omega, rfl, any_step hlt hf (decide_eq_false h2), rfl⟩
 ·have k1 : decide ((q : Int) < (l.length : Int)) = false := decide_eq_false (by omega)
  obtain rfl : q = l.length := by omega
  rw [List.take_length] at hf
  rw [hf] at he
  simp only [go_sem, hA, guSt, encS_length, k1, he, Tryz.results51]
abbrev gdSt (l : List Dc) (q : Nat) : St := ⟨[(0, .d (.sl (encDs l))), (3, .d (.raw (.int .i64 q)))], [], []⟩
abbrev gd2St (l : List Dc) (q k : Nat) : St := ⟨[(0, .d (.sl (encDs l))), (3, .d (.raw (.int .i64 q))), (4, .d (.raw (.int .i64 k)))], [], []⟩
set_option maxRecDepth 100000 in
set_option maxHeartbeats 8000000 in
theorem rGreatDecls_c (l : List Dc) (hb : ∀ d ∈ l, nodesE d.body ≤ 1048576) : Con Tryz.prog 52 [.d (.sl (encDs l))] (.d (.raw (.bool (greatDs l)))) := by
 refine con_of Tryz.func52 rfl (by decide +kernel) rfl rfl (by simp [Tryz.ntmps52]) fun A hA => ?_
 rw [Tryz.ntmps52] at hA
 refine goC 400 ?_
 by_cases h1 : 8 < l.length
 ·have g1 : decide ((8 : Int) < (l.length : Int)) = true := decide_eq_true (by omega)
  have he : greatDs l = true := by unfold greatDs; rw [decide_eq_true h1]; rfl
  simp only [go_sem, hA, encDs_length, g1, he, Tryz.results52]
 have g1 : decide ((8 : Int) < (l.length : Int)) = false := decide_eq_false (by omega)
 have he : greatDs l = l.any greatDc := by unfold greatDs; rw [decide_eq_false h1]; rfl
 simp only [go_sem, hA, encDs_length, g1]
 refine satC_loop [0, 3] [] [] (fun y σ => ∃ q : Nat, q ≤ l.length ∧ y = l.length - q ∧ (l.take q).any greatDc = false ∧ σ = gdSt l q) l.length ⟨0, by omega, by omega, rfl, by simp only [go_sem, gdSt]⟩ ?_
 rintro y σ ⟨q, hq, rfl, hf, rfl⟩
 refine goC 400 ?_
 by_cases hlt : q < l.length
 case neg =>
  have k1 : decide ((q : Int) < (l.length : Int)) = false := decide_eq_false (by omega)
  obtain rfl : q = l.length := by omega
  rw [List.take_length] at hf
  rw [hf] at he
  simp only [go_sem, hA, gdSt, encDs_length, k1, he, Tryz.results52]
 have k1 : decide ((q : Int) < (l.length : Int)) = true := decide_eq_true (by omega)
 obtain ⟨d, hd⟩ : ∃ d, l[q] = d := ⟨_, rfl⟩
 have cg := rGreat_c d.body (hb d (by rw [← hd]; exact List.getElem_mem hlt))
 have hhit : greatDc d = true → greatDs l = true := fun h => by rw [he]; exact any_hit hlt (by rw [hd]; exact h)
 by_cases h2 : 5 < d.names.length
 ·have k2 : decide ((5 : Int) < (d.names.length : Int)) = true := decide_eq_true (by omega)
  have hr := hhit (by unfold greatDc; rw [decide_eq_true h2]; rfl)
  simp only [go_sem, hA, gdSt, encDs_length, encS_length, k1, Int.toNat_natCast, encDs_at l q hlt, hd, encD, k2, undef, hr, Tryz.results52]
  exact ⟨by omega, by omega⟩
 have k2 : decide ((5 : Int) < (d.names.length : Int)) = false := decide_eq_false (by omega)
 simp only [go_sem, hA, gdSt, encDs_length, encS_length, k1, Int.toNat_natCast, encDs_at l q hlt, hd, encD, k2]
 refine ⟨⟨by omega, by omega⟩, ⟨by omega, by omega⟩, ?_⟩
 refine goCall 300 cg rfl (by simp only [go_sem, avE_eq]) (by simp only [go_sem, hA]) ?_
 cases hg : greatE d.body with
 | true =>
  have hr := hhit (by unfold greatDc; rw [hg]; simp)
  simp only [go_sem, hA, hr, Tryz.results52]
 | false =>
  have hdc : greatDc d = d.names.any fun s => decide (100 < s.size) := by unfold greatDc; rw [hg, decide_eq_false h2]; rfl
  simp only [go_sem, hA]
  refine satC_loop [0, 3, 4] [] [] (fun y σ => ∃ k : Nat, k ≤ d.names.length ∧ y = d.names.length - k ∧ ((d.names.take k).any fun s => decide (100 < s.size)) = false ∧ σ = gd2St l q k) d.names.length ⟨0, by omega, by omega, rfl, by simp only [go_sem, gd2St]⟩ ?_
  rintro y σ ⟨k, hk, rfl, hf2, rfl⟩
  refine goC 400 ?_
  by_cases hkl : k < d.names.length
  ·have k3 : decide ((k : Int) < (d.names.length : Int)) = true := decide_eq_true (by omega)
   by_cases h4 : 100 < d.names[k].size
   ·have k4 : decide ((100 : Int) < (d.names[k].size : Int)) = true := decide_eq_true (by omega)
    have hr := hhit (by rw [hdc]; exact any_hit hkl (decide_eq_true h4))
    simp only [go_sem, hA, gd2St, encDs_length, encS_length, k3, Int.toNat_natCast, encDs_at l q hlt, hd, encD, encS_at d.names k hkl, k4, hr, Tryz.results52]
    exact ⟨⟨by omega, by omega⟩, ⟨by omega, by omega⟩, by omega, by omega⟩
   ·have k4 : decide ((100 : Int) < (d.names[k].size : Int)) = false := decide_eq_false (by omega)
    simp only [go_sem, hA, gd2St, encDs_length, encS_length, k3, Int.toNat_natCast, encDs_at l q hlt, hd, encD, encS_at d.names k hkl, k4]
    exact ⟨⟨by omega, by omega⟩, ⟨by omega, by omega⟩, ⟨by omega, by omega⟩, by unfold inI64; omega, d.names.length - (k + 1), by omega, k + 1, by omega, rfl, any_step hkl hf2 (decide_eq_false h4), rfl⟩
  ·have k3 : decide ((k : Int) < (d.names.length : Int)) = false := decide_eq_false (by omega)
   obtain rfl : k = d.names.length := by omega
   rw [List.take_length] at hf2
   simp only [go_sem, hA, gd2St, encDs_length, encS_length, k3, Int.toNat_natCast, encDs_at l q hlt, hd, encD]
   exact ⟨⟨by omega, by omega⟩, by unfold inI64; omega, l.length - (q + 1), by omega, q + 1, by omega, rfl, any_step hlt hf (by rw [hd, hdc]; exact hf2), rfl⟩
set_option maxRecDepth 100000 in
set_option maxHeartbeats 8000000 in
theorem rGreatSource_c (x : Sr) (hb : ∀ d ∈ x.decls, nodesE d.body ≤ 1048576) : Con Tryz.prog 24 [avS x] (.d (.raw (.bool (greatS x)))) := by
 have cu := rGreatUses_c x.uses
 have cd := rGreatDecls_c x.decls hb
 refine con_of Tryz.func24 rfl (by decide +kernel) rfl rfl (by simp [Tryz.ntmps24]) fun A hA => ?_
 rw [Tryz.ntmps24] at hA
 refine goC 400 ?_
 simp only [go_sem, hA, avS]
 refine goCall 300 cu rfl (by simp only [go_sem]) (by simp only [go_sem, hA]) ?_
 cases h : greatU x.uses with
 | true =>
  have hr : greatS x = true := by unfold greatS; rw [h]; rfl
  simp only [go_sem, hA, undef, hr, Tryz.results24]
 | false =>
  have hr : greatS x = greatDs x.decls := by unfold greatS; rw [h]; rfl
  simp only [go_sem, hA]
  refine goCall 300 cd rfl (by simp only [go_sem]) (by simp only [go_sem, hA]) ?_
  cases h2 : greatDs x.decls <;> rw [h2] at hr <;> simp only [go_sem, hA, hr, Tryz.results24]
end Go.Proofs.YtnnolijagpakiaaGreatDoor
namespace Go.Proofs.YtnnolijagpakiaaGreatDoor
open Go Go.RowKit
theorem greatDs_nodes {l : List Dc} (h : greatDs l = false) : ∀ d ∈ l, nodesE d.body ≤ 40 := fun d hd => by
 simp only [greatDs, Bool.or_eq_false_iff] at h
 have h1 : greatDc d = false := by
  cases hg : greatDc d with
  | false => rfl
  | true => rw [List.any_eq_true.2 ⟨d, hd, hg⟩] at h; exact absurd h.2 (by simp)
 simp only [greatDc, Bool.or_eq_false_iff] at h1
 have h2 := h1.1.2
 simp only [greatE, Bool.or_eq_false_iff, decide_eq_false_iff_not] at h2
 omega
theorem greatS_nodes {x : Sr} (h : greatS x = false) : ∀ d ∈ x.decls, nodesE d.body ≤ 40 := by
 simp only [greatS, Bool.or_eq_false_iff] at h
 exact greatDs_nodes h.2
theorem textX_ok {x : Sr} (h : (textX x).2 = 0) : OkSr x ∧ (textX x).1 = ⟨(catL (srcParts x)).toArray⟩ ∧ (catL (srcParts x)).length ≤ 65536 := by
 unfold textX at h ⊢
 by_cases h1 : srcX sdeclX x = 0
 ·rw [if_pos h1] at h ⊢
  by_cases h2 : 65536 < (catL (srcParts x)).length
  ·rw [if_pos h2] at h; exact absurd h (by decide)
  ·rw [if_neg h2]
   exact ⟨src_ok h1, rfl, by omega⟩
 ·rw [if_neg h1] at h; exact absurd h h1
theorem greatS_names {x : Sr} (h : greatS x = false) : x.uses.length ≤ 10 ∧ x.decls.length ≤ 8 ∧ ∀ d ∈ x.decls, d.names.length ≤ 5 := by
 simp only [greatS, greatU, greatDs, Bool.or_eq_false_iff, decide_eq_false_iff_not] at h
 refine ⟨by omega, by omega, fun d hd => ?_⟩
 have h1 : greatDc d = false := by
  cases hg : greatDc d with
  | false => rfl
  | true => rw [List.any_eq_true.2 ⟨d, hd, hg⟩] at h; exact absurd h.2.2 (by simp)
 simp only [greatDc, Bool.or_eq_false_iff, decide_eq_false_iff_not] at h1
 omega
end Go.Proofs.YtnnolijagpakiaaGreatDoor
