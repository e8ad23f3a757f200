/- Texts of this proof, part 14: what the proof uses of them. -/
import Derived.Test.YtnjedgpidalioaaGreatDoorQam
import Derived.WalkKit
import Derived.Test.YtnjedgpidalioaaGreatDoorQah
namespace Go.Proofs.YtnjedgpidalioaaGreatDoor
section
open Go Go.RowKit
structure Fl where
 path : ByteArray
 data : ByteArray
def encF (x : Fl) : List D := [.raw (.string x.path), .raw (.string x.data)]
def avF (x : Fl) : AV := .agg [.d (.raw (.string x.path)), .d (.raw (.string x.data))]
def encFs (l : List Fl) : List (List D) := l.map encF
theorem encFs_length (l : List Fl) : (encFs l).length = l.length := by simp [encFs]
theorem encFs_at (l : List Fl) (i : Nat) (h : i < l.length) : (encFs l).getD i [] = [.raw (.string l[i].path), .raw (.string l[i].data)] := by
 simp [encFs, List.getD_eq_getElem?_getD, h, encF]
theorem encFs_fit (l : List Fl) : rowsFit 2 (encFs l) := by
 intro r hr
 obtain ⟨x, _, rfl⟩ := List.mem_map.1 hr
 refine ⟨rfl, fun y hy => ?_⟩
 simp only [encF, List.mem_cons, List.not_mem_nil, or_false] at hy
 rcases hy with rfl | rfl <;> rfl
theorem cutSuffix_c (s : ByteArray) (hs : s.size ≤ 9223372036854775807) : Con Tryz.prog 54 [.d (.raw (.string s)), .d (.raw (.string ⟨#[46, 112, 107]⟩))] (.tup [.d (.raw (.string ⟨(Lib.trimSuffix s.data.toList [46, 112, 107]).toArray⟩)), .d (.raw (.bool (Lib.hasSuffix s.data.toList [46, 112, 107])))]) :=
 con_raw (vs := [.string s, .string ⟨#[46, 112, 107]⟩]) ⟨_, Tryz.func54, by decide +kernel, rfl⟩ rfl (fun _ _ => .tup [_, _] [_, _] rfl fun i hi _ => by
  match i, hi with
  | 0, _ => exact .d (.raw _)
  | 1, _ => exact .d (.raw _)) fun w => (Tryz.strings_CutSuffix s ⟨#[46, 112, 107]⟩ w hs).mono fun e w' h => ⟨h.1, h.2 ▸ Below.refl _ _⟩
def isMod (s : ByteArray) : Bool := Lib.hasSuffix s.data.toList [46, 112, 107] && decide (¬ aliasB ⟨(Lib.trimSuffix s.data.toList [46, 112, 107]).toArray⟩ = ⟨#[]⟩)
set_option maxRecDepth 100000 in
set_option maxHeartbeats 16000000 in
theorem isModule_c (s : ByteArray) (hs : s.size ≤ 9223372036854775807) : Con Tryz.prog 25 [.d (.raw (.string s))] (.d (.raw (.bool (isMod s)))) := by
 refine con_of Tryz.func25 rfl (by decide +kernel) rfl rfl (by simp [Tryz.ntmps25]) fun A hA => ?_
 rw [Tryz.ntmps25] at hA
 refine goC 400 ?_
 simp only [go_sem, hA]
 refine goCall 400 (cutSuffix_c s hs) rfl (by simp only [go_sem]) (by simp only [go_sem, hA]) ?_
 cases hh : Lib.hasSuffix s.data.toList [46, 112, 107] with
 | false =>
  have hr : isMod s = false := by unfold isMod; rw [hh]; rfl
  simp only [go_sem, hA, hr, undef, Tryz.results25]
 | true =>
  have hr : isMod s = decide (¬ aliasB ⟨(Lib.trimSuffix s.data.toList [46, 112, 107]).toArray⟩ = ⟨#[]⟩) := by unfold isMod; rw [hh]; rfl
  simp only [go_sem, hA]
  refine goCall 400 (alias_c ⟨(Lib.trimSuffix s.data.toList [46, 112, 107]).toArray⟩) rfl (by simp only [go_sem]) (by simp only [go_sem, hA]) ?_
  simp only [go_sem, hA, hr, Tryz.results25]
def cmpS (a b : ByteArray) : Int := Lib.compareBytes a.data.toList b.data.toList
theorem compare_c (a b : ByteArray) : Con Tryz.prog 60 [.d (.raw (.string a)), .d (.raw (.string b))] (.d (.raw (.int .i64 (cmpS a b)))) :=
 con_raw (vs := [.string a, .string b]) ⟨_, Tryz.func60, by decide +kernel, rfl⟩ rfl (fun _ _ => .d (.raw _)) fun w => (Tryz.strings_Compare a b w).mono fun e w' h => ⟨h.1, h.2 ▸ Below.refl _ _⟩
set_option maxRecDepth 100000 in
theorem findCmp_c (x : Fl) (s : ByteArray) : Con Tryz.prog 59 [avF x, .d (.raw (.string s))] (.d (.raw (.int .i64 (cmpS x.path s)))) := by
 refine con_of Tryz.func59 rfl (by decide +kernel) rfl rfl (by simp [Tryz.ntmps59]) fun A hA => ?_
 rw [Tryz.ntmps59] at hA
 refine goC 400 ?_
 simp only [go_sem, hA, avF]
 refine goCall 400 (compare_c x.path s) rfl (by simp only [go_sem]) (by simp only [go_sem, hA]) ?_
 simp only [go_sem, hA, Tryz.results59]
end
section
open Go Go.RowKit
theorem any_step {α : Type} {p : α → Bool} {l : List α} {q : Nat} (hq : q < l.length) (h : (l.take q).any p = false) (h1 : p l[q] = false) : (l.take (q + 1)).any p = false := by
 rw [List.take_succ_eq_append_getElem hq, List.any_append, h]
 simp [h1]
theorem any_hit {α : Type} {p : α → Bool} {l : List α} {q : Nat} (hq : q < l.length) (h1 : p l[q] = true) : l.any p = true := List.any_eq_true.2 ⟨l[q], List.getElem_mem hq, h1⟩
end
section
open Go Go.RowKit
structure Tc where
 path : ByteArray
 inB : Bool
 inL : Bool
 inR : Bool
 base : ByteArray
 left : ByteArray
 right : ByteArray
def encC (x : Tc) : List D := [.raw (.string x.path), .raw (.bool x.inB), .raw (.bool x.inL), .raw (.bool x.inR), .raw (.string x.base), .raw (.string x.left), .raw (.string x.right)]
def avC (x : Tc) : AV := .agg [.d (.raw (.string x.path)), .d (.raw (.bool x.inB)), .d (.raw (.bool x.inL)), .d (.raw (.bool x.inR)), .d (.raw (.string x.base)), .d (.raw (.string x.left)), .d (.raw (.string x.right))]
def encCs (l : List Tc) : List (List D) := l.map encC
theorem encCs_length (l : List Tc) : (encCs l).length = l.length := by simp [encCs]
theorem encCs_at (l : List Tc) (i : Nat) (h : i < l.length) : (encCs l).getD i [] = encC l[i] := by simp [encCs, List.getD_eq_getElem?_getD, h]
theorem encCs_fit (l : List Tc) : rowsFit 7 (encCs l) := by
 intro r hr
 obtain ⟨x, _, rfl⟩ := List.mem_map.1 hr
 refine ⟨rfl, fun y hy => ?_⟩
 simp only [encC, List.mem_cons, List.not_mem_nil, or_false] at hy
 rcases hy with rfl | rfl | rfl | rfl | rfl | rfl | rfl <;> rfl
def encMs (l : List Mo) : List (List D) := l.map encM
theorem encMs_length (l : List Mo) : (encMs l).length = l.length := by simp [encMs]
theorem encMs_at (l : List Mo) (i : Nat) (h : i < l.length) : (encMs l).getD i [] = encM l[i] := by simp [encMs, List.getD_eq_getElem?_getD, h]
theorem encMs_fit (l : List Mo) : rowsFit 3 (encMs l) := by
 intro r hr
 obtain ⟨x, _, rfl⟩ := List.mem_map.1 hr
 refine ⟨rfl, fun y hy => ?_⟩
 simp only [encM, List.mem_cons, List.not_mem_nil, or_false] at hy
 rcases hy with rfl | rfl | rfl <;> rfl
def ixF {α : Type} (p : α → Bool) (l : List α) : Int := if l.any p then (l.findIdx p : Int) else -1
theorem ixF_hit {α : Type} {p : α → Bool} {l : List α} {q : Nat} (hq : q < l.length) (hf : (l.take q).any p = false) (h : p l[q] = true) : ixF p l = q := by
 unfold ixF
 rw [if_pos (List.any_eq_true.2 ⟨_, List.getElem_mem hq, h⟩), (List.findIdx_eq hq).2 ⟨h, fun j hj => ?_⟩]
 rw [List.any_eq_false] at hf
 have := hf l[j] (List.mem_take_iff_getElem.2 ⟨j, by omega, rfl⟩)
 simpa using this
theorem ixF_nonneg {α : Type} (p : α → Bool) (l : List α) : decide (0 ≤ ixF p l) = l.any p := by
 unfold ixF
 cases l.any p with
 | true => exact decide_eq_true (by simp only [if_true]; omega)
 | false => rfl
abbrev ixFileSt (f : FuncId) (cs : List AV) (l : List Fl) (q : Nat) : St := ⟨[(0, .d (.sl (encFs l))), (1, .fn f cs), (7, .d (.raw (.int .i64 l.length))), (8, .d (.raw (.int .i64 q)))], [], []⟩
set_option maxRecDepth 100000 in
set_option maxHeartbeats 16000000 in
theorem ixFile_c (l : List Fl) (f : FuncId) (cs : List AV) (p : Fl → Bool) (hcs : closedL cs = true) (hcl : closeL cs = some cs) (hl : l.length ≤ 1048576) (hp : ∀ x ∈ l, Con Tryz.prog f (avF x :: cs) (.d (.raw (.bool (p x))))) : Con Tryz.prog 53 [.d (.sl (encFs l)), .fn f cs] (.d (.raw (.int .i64 (ixF p l)))) := by
 refine con_of Tryz.func53 rfl (by decide +kernel) rfl (by simp only [go_sem, hcs]) (by simp [Tryz.ntmps53]) fun A hA => ?_
 rw [Tryz.ntmps53] at hA
 refine goC 400 ?_
 simp only [go_sem, hA, encFs_length]
 refine satC_loop [0, 1, 7, 8] [] [] (fun y σ => ∃ q : Nat, q ≤ l.length ∧ y = l.length - q ∧ (l.take q).any p = false ∧ σ = ixFileSt f cs l q) l.length ⟨0, by omega, by omega, rfl, by simp only [go_sem, ixFileSt]⟩ ?_
 rintro y σ ⟨q, hq, rfl, hf, rfl⟩
 refine goC 400 ?_
 by_cases hlt : q < l.length
 ·have k1 : decide ((q : Int) < (l.length : Int)) = true := decide_eq_true (by omega)
  have hc := hp l[q] (List.getElem_mem hlt)
  simp only [go_sem, hA, ixFileSt, encFs_length, k1, Int.toNat_natCast, encFs_at l q hlt]
  refine ⟨⟨by omega, by omega⟩, ?_⟩
  refine goCallF 400 (cs := cs) hc rfl rfl (by simp only [go_sem]) (by simp only [go_sem, hcl, avF]) (by simp only [go_sem, hA]) ?_
  cases hx : p l[q] with
  | true => simp only [go_sem, hA, ixF_hit hlt hf hx, Tryz.results53]
  | false =>
   simp only [go_sem, hA]
   exact ⟨by unfold inI64; omega, l.length - (q + 1), by omega, q + 1, by omega, rfl, any_step hlt hf hx, rfl⟩
 ·have k1 : decide ((q : Int) < (l.length : Int)) = false := decide_eq_false (by omega)
  obtain rfl : q = l.length := by omega
  rw [List.take_length] at hf
  have hr : ixF p l = -1 := by unfold ixF; rw [hf]; rfl
  simp only [go_sem, hA, ixFileSt, k1, hr, Tryz.results53]
set_option maxRecDepth 100000 in
theorem ixFileAny_c (l : List Fl) (f : FuncId) (cs : List AV) (p : Fl → Bool) (hcs : closedL cs = true) (hcl : closeL cs = some cs) (hl : l.length ≤ 1048576) (hp : ∀ x ∈ l, Con Tryz.prog f (avF x :: cs) (.d (.raw (.bool (p x))))) : Con Tryz.prog 23 [.d (.sl (encFs l)), .fn f cs] (.d (.raw (.bool (l.any p)))) := by
 refine con_of Tryz.func23 rfl (by decide +kernel) rfl (by simp only [go_sem, hcs]) (by simp [Tryz.ntmps23]) fun A hA => ?_
 rw [Tryz.ntmps23] at hA
 refine goC 400 ?_
 simp only [go_sem, hA]
 refine goCall 400 (ixFile_c l f cs p hcs hcl hl hp) rfl (by simp only [go_sem, hcl]) (by simp only [go_sem, hA]) ?_
 simp only [go_sem, hA, ixF_nonneg, Tryz.results23]
abbrev ixModSt (f : FuncId) (cs : List AV) (l : List Mo) (q : Nat) : St := ⟨[(0, .d (.sl (encMs l))), (1, .fn f cs), (7, .d (.raw (.int .i64 l.length))), (8, .d (.raw (.int .i64 q)))], [], []⟩
set_option maxRecDepth 100000 in
set_option maxHeartbeats 16000000 in
theorem ixMod_c (l : List Mo) (f : FuncId) (cs : List AV) (p : Mo → Bool) (hcs : closedL cs = true) (hcl : closeL cs = some cs) (hl : l.length ≤ 1048576) (hp : ∀ x ∈ l, Con Tryz.prog f (avM x :: cs) (.d (.raw (.bool (p x))))) : Con Tryz.prog 32 [.d (.sl (encMs l)), .fn f cs] (.d (.raw (.int .i64 (ixF p l)))) := by
 refine con_of Tryz.func32 rfl (by decide +kernel) rfl (by simp only [go_sem, hcs]) (by simp [Tryz.ntmps32]) fun A hA => ?_
 rw [Tryz.ntmps32] at hA
 refine goC 400 ?_
 simp only [go_sem, hA, encMs_length]
 refine satC_loop [0, 1, 7, 8] [] [] (fun y σ => ∃ q : Nat, q ≤ l.length ∧ y = l.length - q ∧ (l.take q).any p = false ∧ σ = ixModSt f cs l q) l.length ⟨0, by omega, by omega, rfl, by simp only [go_sem, ixModSt]⟩ ?_
 rintro y σ ⟨q, hq, rfl, hf, rfl⟩
 refine goC 400 ?_
 by_cases hlt : q < l.length
 ·have k1 : decide ((q : Int) < (l.length : Int)) = true := decide_eq_true (by omega)
  have hc := hp l[q] (List.getElem_mem hlt)
  simp only [go_sem, hA, ixModSt, encMs_length, k1, Int.toNat_natCast, encMs_at l q hlt, encM]
  refine ⟨⟨by omega, by omega⟩, ?_⟩
  refine goCallF 400 (cs := cs) hc rfl rfl (by simp only [go_sem]) (by simp only [go_sem, hcl, avM]) (by simp only [go_sem, hA]) ?_
  cases hx : p l[q] with
  | true => simp only [go_sem, hA, ixF_hit hlt hf hx, Tryz.results32]
  | false =>
   simp only [go_sem, hA]
   exact ⟨by unfold inI64; omega, l.length - (q + 1), by omega, q + 1, by omega, rfl, any_step hlt hf hx, rfl⟩
 ·have k1 : decide ((q : Int) < (l.length : Int)) = false := decide_eq_false (by omega)
  obtain rfl : q = l.length := by omega
  rw [List.take_length] at hf
  have hr : ixF p l = -1 := by unfold ixF; rw [hf]; rfl
  simp only [go_sem, hA, ixModSt, k1, hr, Tryz.results32]
set_option maxRecDepth 100000 in
theorem ixModAny_c (l : List Mo) (f : FuncId) (cs : List AV) (p : Mo → Bool) (hcs : closedL cs = true) (hcl : closeL cs = some cs) (hl : l.length ≤ 1048576) (hp : ∀ x ∈ l, Con Tryz.prog f (avM x :: cs) (.d (.raw (.bool (p x))))) : Con Tryz.prog 28 [.d (.sl (encMs l)), .fn f cs] (.d (.raw (.bool (l.any p)))) := by
 refine con_of Tryz.func28 rfl (by decide +kernel) rfl (by simp only [go_sem, hcs]) (by simp [Tryz.ntmps28]) fun A hA => ?_
 rw [Tryz.ntmps28] at hA
 refine goC 400 ?_
 simp only [go_sem, hA]
 refine goCall 400 (ixMod_c l f cs p hcs hcl hl hp) rfl (by simp only [go_sem, hcl]) (by simp only [go_sem, hA]) ?_
 simp only [go_sem, hA, ixF_nonneg, Tryz.results28]
abbrev ixTextSt (f : FuncId) (cs : List AV) (l : List Tc) (q : Nat) : St := ⟨[(0, .d (.sl (encCs l))), (1, .fn f cs), (7, .d (.raw (.int .i64 l.length))), (8, .d (.raw (.int .i64 q)))], [], []⟩
set_option maxRecDepth 100000 in
set_option maxHeartbeats 16000000 in
theorem ixText_c (l : List Tc) (f : FuncId) (cs : List AV) (p : Tc → Bool) (hcs : closedL cs = true) (hcl : closeL cs = some cs) (hl : l.length ≤ 1048576) (hp : ∀ x ∈ l, Con Tryz.prog f (avC x :: cs) (.d (.raw (.bool (p x))))) : Con Tryz.prog 62 [.d (.sl (encCs l)), .fn f cs] (.d (.raw (.int .i64 (ixF p l)))) := by
 refine con_of Tryz.func62 rfl (by decide +kernel) rfl (by simp only [go_sem, hcs]) (by simp [Tryz.ntmps62]) fun A hA => ?_
 rw [Tryz.ntmps62] at hA
 refine goC 400 ?_
 simp only [go_sem, hA, encCs_length]
 refine satC_loop [0, 1, 7, 8] [] [] (fun y σ => ∃ q : Nat, q ≤ l.length ∧ y = l.length - q ∧ (l.take q).any p = false ∧ σ = ixTextSt f cs l q) l.length ⟨0, by omega, by omega, rfl, by simp only [go_sem, ixTextSt]⟩ ?_
 rintro y σ ⟨q, hq, rfl, hf, rfl⟩
 refine goC 400 ?_
 by_cases hlt : q < l.length
 ·have k1 : decide ((q : Int) < (l.length : Int)) = true := decide_eq_true (by omega)
  have hc := hp l[q] (List.getElem_mem hlt)
  simp only [go_sem, hA, ixTextSt, encCs_length, k1, Int.toNat_natCast, encCs_at l q hlt, encC]
  refine ⟨⟨by omega, by omega⟩, ?_⟩
  refine goCallF 400 (cs := cs) hc rfl rfl (by simp only [go_sem]) (by simp only [go_sem, hcl, avC]) (by simp only [go_sem, hA]) ?_
  cases hx : p l[q] with
  | true => simp only [go_sem, hA, ixF_hit hlt hf hx, Tryz.results62]
  | false =>
   simp only [go_sem, hA]
   exact ⟨by unfold inI64; omega, l.length - (q + 1), by omega, q + 1, by omega, rfl, any_step hlt hf hx, rfl⟩
 ·have k1 : decide ((q : Int) < (l.length : Int)) = false := decide_eq_false (by omega)
  obtain rfl : q = l.length := by omega
  rw [List.take_length] at hf
  have hr : ixF p l = -1 := by unfold ixF; rw [hf]; rfl
  simp only [go_sem, hA, ixTextSt, k1, hr, Tryz.results62]
end
section
open Go Go.RowKit
def bsR (lt : Nat → Bool) : Nat → Nat → Nat → Nat
 | 0, i, _ => i
 | k + 1, i, j => if i < j then (if lt ((i + j) / 2) then bsR lt k ((i + j) / 2 + 1) j else bsR lt k i ((i + j) / 2)) else i
theorem bsR_le (lt : Nat → Bool) : ∀ k i j, i ≤ j → i ≤ bsR lt k i j ∧ bsR lt k i j ≤ j
 | 0, i, j, h => ⟨Nat.le_refl _, h⟩
 | k + 1, i, j, h => by
  rw [bsR]
  split
  ·split
   ·have := bsR_le lt k ((i + j) / 2 + 1) j (by omega); omega
   ·have := bsR_le lt k i ((i + j) / 2) (by omega); omega
  ·omega
theorem bsR_done (lt : Nat → Bool) (k : Nat) {i j : Nat} (h : ¬ i < j) : bsR lt k i j = i := by
 cases k with
 | zero => rfl
 | succ k => rw [bsR, if_neg h]
theorem bsR_fuel (lt : Nat → Bool) : ∀ k k' i j, j - i ≤ k → j - i ≤ k' → bsR lt k i j = bsR lt k' i j
 | 0, k', i, j, h, _ => by rw [bsR_done lt 0 (by omega), bsR_done lt k' (by omega)]
 | k + 1, 0, i, j, _, h => by rw [bsR_done lt 0 (by omega), bsR_done lt (k + 1) (by omega)]
 | k + 1, k' + 1, i, j, h, h' => by
  rw [bsR, bsR]
  by_cases hlt : i < j
  ·rw [if_pos hlt, if_pos hlt, bsR_fuel lt k k' ((i + j) / 2 + 1) j (by omega) (by omega), bsR_fuel lt k k' i ((i + j) / 2) (by omega) (by omega)]
  ·rw [if_neg hlt, if_neg hlt]
theorem bsR_half (lt : Nat → Bool) {i j R : Nat} (hij : i < j) (hR : ∀ k, j - i ≤ k → bsR lt k i j = R) : if lt ((i + j) / 2) then ∀ k, j - ((i + j) / 2 + 1) ≤ k → bsR lt k ((i + j) / 2 + 1) j = R else ∀ k, (i + j) / 2 - i ≤ k → bsR lt k i ((i + j) / 2) = R := by
 have h := hR (j - i + 1) (by omega)
 rw [bsR, if_pos hij] at h
 split
 ·rename_i hl
  rw [if_pos hl] at h
  exact fun k hk => (bsR_fuel lt k (j - i) _ _ hk (by omega)).trans h
 ·rename_i hl
  rw [if_neg hl] at h
  exact fun k hk => (bsR_fuel lt k (j - i) _ _ hk (by omega)).trans h
def fileLt (l : List Fl) (s : ByteArray) (h : Nat) : Bool := match l[h]? with
 | some x => decide (cmpS x.path s < 0)
 | none => false
def placeF (l : List Fl) (s : ByteArray) : Nat := bsR (fileLt l s) l.length 0 l.length
def hasF (l : List Fl) (s : ByteArray) : Bool := match l[placeF l s]? with
 | some x => decide (cmpS x.path s = 0)
 | none => false
abbrev bsSt (l : List Fl) (s : ByteArray) (i j : Nat) : St := ⟨[(0, .d (.sl (encFs l))), (1, .d (.raw (.string s))), (2, .fn 59 []), (8, .d (.raw (.int .i64 l.length))), (9, .d (.raw (.int .i64 i))), (10, .d (.raw (.int .i64 j)))], [], []⟩
theorem half_u64 (i j : Nat) (h : i + j < 4611686018427387904) : IntKind.i64.wrap ((IntKind.u64.wrap ((i : Int) + (j : Int))).fdiv (2 ^ min 1 64)) = (((i + j) / 2 : Nat) : Int) := by
 have h1 : IntKind.u64.wrap ((i : Int) + (j : Int)) = ((i + j : Nat) : Int) := by
  rw [IntKind.wrap_u64]; omega
 have h2 : ((2 : Int) ^ min 1 64) = 2 := rfl
 rw [h1, h2, wrapI64 (by unfold inI64; rw [Int.fdiv_eq_ediv_of_nonneg _ (by decide)]; omega), Int.fdiv_eq_ediv_of_nonneg _ (by decide)]
 omega
set_option maxRecDepth 100000 in
set_option maxHeartbeats 16000000 in
theorem bsearch_c (l : List Fl) (s : ByteArray) (hl : l.length ≤ 1048576) : Con Tryz.prog 58 [.d (.sl (encFs l)), .d (.raw (.string s)), .fn 59 []] (.tup [.d (.raw (.int .i64 (placeF l s))), .d (.raw (.bool (hasF l s)))]) := by
 refine con_of Tryz.func58 rfl (by decide +kernel) rfl rfl (by simp [Tryz.ntmps58]) fun A hA => ?_
 rw [Tryz.ntmps58] at hA
 refine goC 400 ?_
 simp only [go_sem, hA, encFs_length]
 refine satC_loop [0, 1, 2, 8, 9, 10] [] [] (fun y σ => ∃ i j : Nat, i ≤ j ∧ j ≤ l.length ∧ y = j - i ∧ (∀ k, j - i ≤ k → bsR (fileLt l s) k i j = placeF l s) ∧ σ = bsSt l s i j) l.length ⟨0, l.length, by omega, by omega, by omega, fun k hk => bsR_fuel _ _ _ _ _ hk (by omega), by simp only [go_sem, bsSt]⟩ ?_
 rintro y σ ⟨i, j, hij, hj, rfl, hR, rfl⟩
 refine goC 400 ?_
 by_cases hlt : i < j
 ·have k1 : decide ((i : Int) < (j : Int)) = true := decide_eq_true (by omega)
  have hh := half_u64 i j (by omega)
  have hm : (i + j) / 2 < l.length := by omega
  have hb := bsR_half (fileLt l s) hlt hR
  have hfl : fileLt l s ((i + j) / 2) = decide (cmpS l[(i + j) / 2].path s < 0) := by unfold fileLt; rw [List.getElem?_eq_getElem hm]
  rw [hfl] at hb
  simp only [go_sem, hA, bsSt, k1, encFs_length, hh, Int.toNat_natCast, encFs_at l _ hm]
  refine ⟨by unfold inI64; omega, ⟨by omega, by omega⟩, ?_⟩
  refine goCallF 400 (cs := []) (findCmp_c l[(i + j) / 2] s) rfl rfl (by simp only [go_sem]) (by simp only [go_sem, avF]) (by simp only [go_sem, hA]) ?_
  cases hx : decide (cmpS l[(i + j) / 2].path s < 0) with
  | true =>
   rw [hx, if_pos rfl] at hb
   simp only [go_sem, hA, hx]
   exact ⟨by unfold inI64; omega, j - ((i + j) / 2 + 1), by omega, (i + j) / 2 + 1, j, by omega, hj, rfl, hb, rfl⟩
  | false =>
   rw [hx, if_neg (by simp)] at hb
   simp only [go_sem, hA, hx]
   exact ⟨(i + j) / 2 - i, by omega, i, (i + j) / 2, by omega, by omega, rfl, hb, rfl⟩
 ·have k1 : decide ((i : Int) < (j : Int)) = false := decide_eq_false (by omega)
  have hi : placeF l s = i := by rw [← hR 0 (by omega)]; rfl
  by_cases hil : i < l.length
  ·have k2 : decide ((i : Int) < (l.length : Int)) = true := decide_eq_true (by omega)
   have hf : hasF l s = decide (cmpS l[i].path s = 0) := by unfold hasF; rw [hi, List.getElem?_eq_getElem hil]
   simp only [go_sem, hA, bsSt, k1, k2, encFs_length, Int.toNat_natCast, encFs_at l i hil]
   refine ⟨⟨by omega, by omega⟩, ?_⟩
   refine goCallF 400 (cs := []) (findCmp_c l[i] s) rfl rfl (by simp only [go_sem]) (by simp only [go_sem, avF]) (by simp only [go_sem, hA]) ?_
   simp only [go_sem, hA, hi, hf, Tryz.results58]
  ·have k2 : decide ((i : Int) < (l.length : Int)) = false := decide_eq_false (by omega)
   have hf : hasF l s = false := by unfold hasF; rw [hi, List.getElem?_eq_none (by omega)]
   simp only [go_sem, hA, bsSt, k1, k2, hi, hf, undef, Tryz.results58]
set_option maxRecDepth 100000 in
theorem find_c (l : List Fl) (s : ByteArray) (hl : l.length ≤ 1048576) : Con Tryz.prog 27 [.d (.sl (encFs l)), .d (.raw (.string s))] (.tup [.d (.raw (.int .i64 (placeF l s))), .d (.raw (.bool (hasF l s)))]) := by
 refine con_of Tryz.func27 rfl (by decide +kernel) rfl rfl (by simp [Tryz.ntmps27]) fun A hA => ?_
 rw [Tryz.ntmps27] at hA
 refine goC 400 ?_
 simp only [go_sem, hA]
 refine goCall 400 (bsearch_c l s hl) rfl (by simp only [go_sem]) (by simp only [go_sem, hA]) ?_
 simp only [go_sem, hA, Tryz.results27]
end
section
open Go Go.RowKit
def nmC (c : Int) : Bool := (decide (97 ≤ c) && decide (c ≤ 122)) || ((decide (65 ≤ c) && decide (c ≤ 90)) || ((decide (48 ≤ c) && decide (c ≤ 57)) || (decide (c = 46) || (decide (c = 95) || decide (c = 45)))))
theorem and_cases (a b : Bool) : (a = true ∧ b = true) ∨ a = false ∨ (a = true ∧ b = false) := by cases a <;> cases b <;> simp
set_option maxRecDepth 100000 in
set_option maxHeartbeats 16000000 in
theorem nmLetter_c (c : Int) : Con Tryz.prog 138 [.d (.raw (.int .u8 c))] (.d (.raw (.bool (nmC c)))) := by
 refine con_of Tryz.func138 rfl (by decide +kernel) rfl rfl (by simp [Tryz.ntmps138]) fun A hA => ?_
 rw [Tryz.ntmps138] at hA
 refine goC 400 ?_
 unfold nmC
 rcases and_cases (decide (97 ≤ c)) (decide (c ≤ 122)) with ⟨h1, h2⟩ | h1 | ⟨h1, h2⟩
 case' inl => simp only [go_sem, hA, h1, h2, undef, Tryz.results138]
 case' inr.inl =>
  rcases and_cases (decide (65 ≤ c)) (decide (c ≤ 90)) with ⟨h3, h4⟩ | h3 | ⟨h3, h4⟩
  case' inl => simp only [go_sem, hA, h1, h3, h4, undef, Bool.false_and, Tryz.results138]
 case' inr.inr =>
  rcases and_cases (decide (65 ≤ c)) (decide (c ≤ 90)) with ⟨h3, h4⟩ | h3 | ⟨h3, h4⟩
  case' inl => simp only [go_sem, hA, h1, h2, h3, h4, undef, Bool.false_and, Tryz.results138]
 all_goals
  rcases and_cases (decide (48 ≤ c)) (decide (c ≤ 57)) with ⟨h5, h6⟩ | h5 | ⟨h5, h6⟩ <;> cases h7 : decide (c = 46) <;> cases h8 : decide (c = 95)
 all_goals
  simp only [go_sem, *, undef, Bool.false_and, Tryz.results138]
def validL (l : List UInt8) : Bool := decide (1 ≤ l.length) && decide (l.length ≤ 24) && decide (¬ l = [46]) && decide (¬ l = [46, 46]) && l.all fun c => nmC c.toNat
abbrev vaSt (s : ByteArray) (q : Nat) : St := ⟨[(0, .d (.raw (.string s))), (21, .d (.raw (.int .i64 s.size))), (22, .d (.raw (.int .i64 q)))], [], []⟩
theorem str_eq (s : ByteArray) (l : List UInt8) : (s = ⟨l.toArray⟩) ↔ s.data.toList = l := by
 constructor
 ·rintro rfl; rfl
 ·intro h; cases s; subst h; simp
set_option maxRecDepth 100000 in
set_option maxHeartbeats 16000000 in
theorem valid_c (s : ByteArray) : Con Tryz.prog 88 [.d (.raw (.string s))] (.d (.raw (.bool (validL s.data.toList)))) := by
 refine con_of Tryz.func88 rfl (by decide +kernel) rfl rfl (by simp [Tryz.ntmps88]) fun A hA => ?_
 rw [Tryz.ntmps88] at hA
 have hsl : s.data.toList.length = s.size := by simp
 refine goC 400 ?_
 by_cases h1 : s.size < 1
 ·have g1 : decide ((s.size : Int) < 1) = true := decide_eq_true (by omega)
  have hr : validL s.data.toList = false := by unfold validL; rw [hsl, decide_eq_false (by omega : ¬ 1 ≤ s.size)]; rfl
  simp only [go_sem, hA, g1, hr, undef, Tryz.results88]
 have g1 : decide ((s.size : Int) < 1) = false := decide_eq_false (by omega)
 by_cases h2 : 24 < s.size
 ·have g2 : decide ((24 : Int) < (s.size : Int)) = true := decide_eq_true (by omega)
  have hr : validL s.data.toList = false := by unfold validL; rw [hsl, decide_eq_false (by omega : ¬ s.size ≤ 24), Bool.and_false]; rfl
  simp only [go_sem, hA, g1, g2, hr, undef, Tryz.results88]
 have g2 : decide ((24 : Int) < (s.size : Int)) = false := decide_eq_false (by omega)
 have e3 : (s = ⟨#[46]⟩) ↔ s.data.toList = [46] := str_eq s [46]
 have e4 : (s = ⟨#[46, 46]⟩) ↔ s.data.toList = [46, 46] := str_eq s [46, 46]
 by_cases h3 : s = ⟨#[46]⟩
 ·have g3 : decide (s = ⟨#[46]⟩) = true := decide_eq_true h3
  have hr : validL s.data.toList = false := by rw [e3.1 h3]; decide
  simp only [go_sem, hA, g1, g2, g3, hr, undef, Tryz.results88]
 have g3 : decide (s = ⟨#[46]⟩) = false := decide_eq_false h3
 by_cases h4 : s = ⟨#[46, 46]⟩
 ·have g4 : decide (s = ⟨#[46, 46]⟩) = true := decide_eq_true h4
  have hr : validL s.data.toList = false := by rw [e4.1 h4]; decide
  simp only [go_sem, hA, g1, g2, g3, g4, hr, Tryz.results88]
 have g4 : decide (s = ⟨#[46, 46]⟩) = false := decide_eq_false h4
 have hv : validL s.data.toList = s.data.toList.all fun c => nmC c.toNat := by
  unfold validL
  have n3 : decide (¬ s.data.toList = [46]) = true := decide_eq_true fun h => h3 (e3.2 h)
  have n4 : decide (¬ s.data.toList = [46, 46]) = true := decide_eq_true fun h => h4 (e4.2 h)
  rw [hsl, decide_eq_true (by omega : 1 ≤ s.size), decide_eq_true (by omega : s.size ≤ 24), n3, n4]
  rfl
 simp only [go_sem, hA, g1, g2, g3, g4]
 refine satC_loop [0, 21, 22] [] [] (fun y σ => ∃ q : Nat, q ≤ s.size ∧ y = s.size - q ∧ ((s.data.toList.take q).all fun c => nmC c.toNat) = true ∧ σ = vaSt s q) s.size ⟨0, by omega, by omega, rfl, by simp only [go_sem, vaSt]⟩ ?_
 rintro y σ ⟨q, hq, rfl, hf, rfl⟩
 refine goC 400 ?_
 by_cases hlt : q < s.size
 ·have k1 : decide ((q : Int) < (s.size : Int)) = true := decide_eq_true (by omega)
  have hql : q < s.data.toList.length := by omega
  have hgd : s.data.toList.getD q 0 = s.data.toList[q] := by simp only [List.getD_eq_getElem?_getD, List.getElem?_eq_getElem hql, Option.getD_some]
  simp only [go_sem, hA, vaSt, k1, Int.toNat_natCast, hgd]
  refine ⟨⟨by omega, by omega⟩, ?_⟩
  refine goCall 400 (nmLetter_c s.data.toList[q].toNat) rfl (by simp only [go_sem]) (by simp only [go_sem, hA]) ?_
  cases hc : nmC (s.data.toList[q].toNat : Int) with
  | true =>
   simp only [go_sem, hA]
   refine ⟨by unfold inI64; omega, s.size - (q + 1), by omega, q + 1, by omega, rfl, ?_, rfl⟩
   rw [List.take_succ_eq_append_getElem hql, List.all_append, hf]
   simp only [List.all_cons, List.all_nil, hc, Bool.and_true]
  | false =>
   have hr : validL s.data.toList = false := by
    rw [hv, List.all_eq_false]
    exact ⟨_, List.getElem_mem hql, by rw [hc]; decide⟩
   simp only [go_sem, hA, hr, Tryz.results88]
 ·have k1 : decide ((q : Int) < (s.size : Int)) = false := decide_eq_false (by omega)
  obtain rfl : q = s.size := by omega
  rw [List.take_of_length_le (by omega)] at hf
  rw [hf] at hv
  simp only [go_sem, hA, vaSt, k1, hv, Tryz.results88]
end
section
open Go Go.RowKit Go.Shelf
attribute [local go_sem] Oper.semAt_some
def pathL (l : List UInt8) : Bool := decide (l.length ≤ 100) && (partsL l).all validL
theorem con_rawG {P : Program} {f : FuncId} {vs : List Value} {y : AV} {r : Value} (he : Enters P f) (hc : y.closed = true) (hy : ∀ w F, HasC w F y r) (h : ∀ (w : World), Glob P w → Calls P f vs.toArray w fun e w' => e = .returned r ∧ Below w.heap.size w w') : Con P f (vs.map fun v => .d (.raw v)) y := by
 refine ⟨he, hc, fun F w us hF hG hl hv => ?_⟩
 obtain rfl : us = vs := by
  refine List.ext_getElem (by simpa using hl.symm) fun i h1 h2 => ?_
  have h0 := hv i (by simpa using h2) h1
  rw [List.getElem_map] at h0
  exact h0.raw_eq
 exact (h w hG).mono fun e w' h' => ⟨r, h'.1, hy _ _, h'.2⟩
theorem con_calls {P : Program} {f : FuncId} {vs : List Value} {r : Value} (hc : Con P f (vs.map fun v => .d (.raw v)) (.d (.raw r))) (w : World) (hG : Glob P w) : Calls P f vs.toArray w fun e w' => e = .returned r ∧ Below w.heap.size w w' := by
 refine (hc.2.2 (fun _ _ => False) w vs (fun _ _ h => h.elim) hG (by simp) fun i hi hv => ?_).mono fun e w' ⟨v, h1, h2, h3⟩ => ⟨by rw [h1, h2.raw_eq], h3⟩
 rw [List.getElem_map]
 exact .d (.raw _)
theorem valid_calls (s : ByteArray) (w : World) (hG : Glob Tryz.prog w) : Calls Tryz.prog 88 #[.string s] w fun e w' => e = .returned (.bool (validL s.data.toList)) ∧ Below w.heap.size w w' := con_calls (vs := [.string s]) (valid_c s) w hG
theorem pathL_long {l : List UInt8} (h : 100 < l.length) : pathL l = false := by
 have : ¬ l.length ≤ 100 := by omega
 simp [pathL, this]
theorem path_long (s : ByteArray) (w : World) (h : 100 < s.size) :
  Calls Tryz.prog 50 #[.string s] w fun e w' => e = .returned (.bool (pathL s.data.toList)) ∧ Below w.heap.size w w' := by
 have HF := Lib.hid (pathL_long (l := s.data.toList) (by simpa using h))
 go_enter Tryz.func50, Tryz.ntmps50
 go_wp2_with fail
 refine bodyPost_ret (v := .bool false) (by simp [results, Tryz.results50, go_sem]) rfl ?_
 exact ⟨by rw [HF.out], (Below.refl _ _).alloc (Nat.le_refl _) _⟩
def AllVal (pre : List ByteArray) : Prop := ∀ p ∈ pre, validL p.data.toList = true
def BadVal (pre : List ByteArray) : Prop := ∃ p ∈ pre, validL p.data.toList = false
def PathI (w : World) (pre : List ByteArray) (W : World) : Prop := AllVal pre ∧ W.heap[w.heap.size]? = some (.cells #[.bool false] 4 (0, 0)) ∧ w.heap.size + 1 + 1 + 1 + 1 ≤ W.heap.size ∧ Below w.heap.size w W
def PathX (w : World) (c : Code) (pre : List ByteArray) (W : World) : Prop := c = .ret ∧ BadVal pre ∧ W.heap[w.heap.size]? = some (.cells #[.bool false] 4 (0, 0)) ∧ w.heap.size + 1 + 1 + 1 + 1 ≤ W.heap.size ∧ Below w.heap.size w W
theorem allVal_snoc {pre : List ByteArray} {x : ByteArray} (h : AllVal pre) (hx : validL x.data.toList = true) : AllVal (pre ++ [x]) := by
 intro p hp
 rcases List.mem_append.1 hp with h1 | h1
 ·exact h p h1
 ·simp at h1; subst h1; exact hx
theorem badVal_snoc {pre : List ByteArray} {x : ByteArray} (hx : validL x.data.toList = false) : BadVal (pre ++ [x]) := ⟨x, by simp, hx⟩
theorem pathI_own (w : World) (B : Nat) (hB : w.heap.size ≤ B) : OwnFrom B (PathI w) := fun s W W' row hs hg hr =>
 ⟨hs.1, one_kept hs.2.1 hg (fun r e => (hr r e).2), Nat.le_trans hs.2.2.1 hg.size, hs.2.2.2.trans ((Below.refl _ _).grown hg (by have := hs.2.2.1; omega) (fun k e => by have := (hr k e).1; omega))⟩
theorem pathX_own (w : World) (c : Code) (B : Nat) (hB : w.heap.size ≤ B) : OwnFrom B (PathX w c) := fun s W W' row hs hg hr =>
 ⟨hs.1, hs.2.1, one_kept hs.2.2.1 hg (fun r e => (hr r e).2), Nat.le_trans hs.2.2.2.1 hg.size, hs.2.2.2.2.trans ((Below.refl _ _).grown hg (by have := hs.2.2.2.1; omega) (fun k e => by have := (hr k e).1; omega))⟩
theorem pathI_store (w : World) (pre : List ByteArray) (A B : World) (h : PathI w pre A) (hr : StoreB (w.heap.size + 1) A B) : PathI w pre B := by
 obtain ⟨r, rfl⟩ := hr
 refine ⟨h.1, (Below.heap_setCell _ _ _ _ (by simp)).trans h.2.1, by simpa [World.setCell] using h.2.2.1, h.2.2.2.setCell (p := ⟨w.heap.size + 1, 0, none⟩) (by simp) _⟩
theorem pathX_store (w : World) (c : Code) (pre : List ByteArray) (A B : World) (h : PathX w c pre A) (hr : StoreB (w.heap.size + 1) A B) : PathX w c pre B := by
 obtain ⟨r, rfl⟩ := hr
 refine ⟨h.1, h.2.1, (Below.heap_setCell _ _ _ _ (by simp)).trans h.2.2.1, by simpa [World.setCell] using h.2.2.2.1, h.2.2.2.2.setCell (p := ⟨w.heap.size + 1, 0, none⟩) (by simp) _⟩
theorem pathI_below (w : World) (pre pre' : List ByteArray) (A B : World) (h : PathI w pre A) (hw : AllVal pre') (hb : Below A.heap.size A B) : PathI w pre' B :=
 ⟨hw, (hb.block _ (by have := h.2.2.1; omega)).trans h.2.1, Nat.le_trans h.2.2.1 hb.size, h.2.2.2.trans (hb.mono (by have := h.2.2.1; omega))⟩
theorem pathL_all {s : ByteArray} {xs : List ByteArray} (h : s.size ≤ 100) (hx : SplitAll s xs) (ha : AllVal xs) : pathL s.data.toList = true := by
 unfold SplitAll at hx
 unfold pathL
 rw [← hx, Bool.and_eq_true]
 refine ⟨by simpa using h, ?_⟩
 rw [List.all_eq_true]
 intro p hp
 obtain ⟨q, hq, rfl⟩ := List.mem_map.1 hp
 exact ha q hq
theorem pathL_bad {s : ByteArray} {xs : List ByteArray} (hx : SplitPre s xs) (ha : BadVal xs) : pathL s.data.toList = false := by
 unfold pathL
 rw [Bool.and_eq_false_iff]; right
 rw [List.all_eq_false]
 obtain ⟨q, hq, hb⟩ := ha
 exact ⟨q.data.toList, (show _ <+: _ from hx).subset (List.mem_map.2 ⟨q, hq, rfl⟩), by simp [hb]⟩
set_option maxRecDepth 100000 in
set_option maxHeartbeats 2000000 in
theorem path_short (s : ByteArray) (w : World) (hG : Glob Tryz.prog w) (h : s.size ≤ 100) :
  Calls Tryz.prog 50 #[.string s] w fun e w' => e = .returned (.bool (pathL s.data.toList)) ∧ Below w.heap.size w w' := by
 have h100 : decide (100 < (s.size : Int)) = false := by simp; omega
 refine (callsIn_wide (n := 4)).1 ?_
 refine callsIn_of_wp_marks Tryz.func50 rfl trivial ?_ rfl
 simp only [Tryz.ntmps50, List.size_toArray, List.length_cons, List.length_nil, Nat.reduceAdd, Nat.reduceSub, Array.replicate_succ, Array.replicate_zero, List.push_toArray, List.append_toArray, List.nil_append, List.cons_append]
 gi_wp2_with (first | (refine ⟨trivial, ?_⟩; gi_at_call 78; refine (callsIn_wide.2 (splitSeq_any s ⟨#[47]⟩ _)).mono ?_; rintro e w' ⟨rfl, rfl⟩))
 obtain ⟨W0, hW0⟩ : ∃ W0, ((((w.alloc (Obj.cells #[Value.bool false] 4)).alloc (Obj.cells #[Value.string s] 9)).alloc (Obj.cells #[Value.string ⟨#[47]⟩] 9)).alloc (Obj.cells #[Value.int IntKind.i64 0] 3)) = W0 := ⟨_, rfl⟩
 have z0 : w.heap.size + 1 + 1 + 1 + 1 = W0.heap.size := by rw [← hW0]; simp
 have q0 : W0.heap[w.heap.size]? = some (.cells #[.bool false] 4 (0, 0)) := by rw [← hW0]; exact (Below.heap_alloc _ _ _ (by simp <;> omega)).trans ((Below.heap_alloc _ _ _ (by simp <;> omega)).trans ((Below.heap_alloc _ _ _ (by simp)).trans (World.alloc_heap_new w _)))
 have q1 : W0.heap[w.heap.size + 1]? = some (.cells #[.string s] 9 (0, 0)) := by
  rw [← hW0]; refine (Below.heap_alloc _ _ _ (by simp <;> omega)).trans ((Below.heap_alloc _ _ _ (by simp)).trans ?_)
  have := World.alloc_heap_new (w.alloc (Obj.cells #[Value.bool false] 4)) (Obj.cells #[Value.string s] 9)
  rwa [World.size_alloc] at this
 have q2 : W0.heap[w.heap.size + 1 + 1]? = some (.cells #[.string ⟨#[47]⟩] 9 (0, 0)) := by
  rw [← hW0]; refine (Below.heap_alloc _ _ _ (by simp)).trans ?_
  have := World.alloc_heap_new ((w.alloc (Obj.cells #[Value.bool false] 4)).alloc (Obj.cells #[Value.string s] 9)) (Obj.cells #[Value.string ⟨#[47]⟩] 9)
  simp only [World.size_alloc] at this
  exact this
 have q3 : W0.heap[w.heap.size + 1 + 1 + 1]? = some (.cells #[.int .i64 0] 3 (0, 0)) := by
  rw [← hW0]
  have := World.alloc_heap_new (((w.alloc (Obj.cells #[Value.bool false] 4)).alloc (Obj.cells #[Value.string s] 9)).alloc (Obj.cells #[Value.string ⟨#[47]⟩] 9)) (Obj.cells #[Value.int IntKind.i64 0] 3)
  simp only [World.size_alloc] at this
  exact this
 have bl : Below w.heap.size w W0 := by
  rw [← hW0]; exact ((((Below.refl _ w).alloc (Nat.le_refl _) _).alloc (by simp) _).alloc (by simp <;> omega) _).alloc (by simp <;> omega) _
 rw [hW0]
 clear hW0
 have hal : ∀ (r : Loop) (b : Nat) (o : Obj), W0.heap[b]? = some o → ((W0.alloc (.deferred (some []))).alloc (.loop r)).heap[b]? = some o := fun r b o hb => by
  have := (Array.getElem?_eq_some_iff.1 hb).1
  exact (Below.heap_alloc _ _ _ (by simp <;> omega)).trans ((Below.heap_alloc _ _ _ this).trans hb)
 refine wpIn_rangeFunc_R (P := Tryz.prog) (F := Fence.wide) (n := 4) rfl (by omega) (gf := 162) (lb := #[.pointer (some ⟨w.heap.size + 1 + 1, 0, none⟩), .pointer (some ⟨w.heap.size + 1, 0, none⟩), .pointer (some ⟨w.heap.size + 1 + 1 + 1, 0, none⟩)]) rfl trivial (enters_of Tryz.func162 (by kernel_rfl) rfl)
  (encs := fun x : ByteArray => #[.string x]) (Kp := KeepB [w.heap.size + 1 + 1, w.heap.size + 1, w.heap.size + 1 + 1 + 1]) (R := StoreB (w.heap.size + 1)) (X := fun _ _ => True)
  (S := SplitAll s) (Sp := SplitPre s)
  (fun r l J Jx hJ _ hY hJ0 => split1_in 3 l _ _ _ (by omega) s (by omega) (by omega) (by omega) J Jx hJ (fun pre x A hA => hY pre x A hA trivial) _ (hal r _ _ q2) (hal r _ _ q1) (hal r _ _ q3) hJ0)
  (fun h1 h2 b hb => (h2 b hb).trans (h1 b hb)) (fun W l o o' hl _ _ b hb => World.putObj_heap_other (by simp at hb; omega))
  (fun ⟨r, hr⟩ => hr ▸ (KeepsOthers.setCell _ _ _).from _) (fun _ => rfl)
  (PathI w) (PathX w) (pathI_own w _ (by omega)) (fun c => pathX_own w c _ (by omega)) (pathI_store w) (pathX_store w)
  ⟨fun _ hp => by simp at hp, q0, by omega, bl⟩
  (fun x => { tmps := #[Value.string s, undef, Value.pointer (some { block := w.heap.size, off := 0 }), Value.string x, Value.string s, Value.int IntKind.i64 ↑s.size, Value.bool false, Value.string s,
        Value.func (Fn.func 162) #[] #[Value.pointer (some { block := w.heap.size + 1 + 1, off := 0 }), Value.pointer (some { block := w.heap.size + 1, off := 0 }), Value.pointer (some { block := w.heap.size + 1 + 1 + 1, off := 0 })],
        Value.string x, undef, undef, undef], defers := [] }) ?assign ?body ?done ?stop
 case assign =>
  intro l x W K hK
  gi_wp2
  exact hK
 case body =>
  rintro l pre x W hI -
  have c0 := cell_of_one hI.2.1
  have f0 := free_of_one hI.2.1
  have HV := Lib.hid (valid_calls x W (hG.keep (X := fun _ => False) (.of hI.2.2.2) fun _ h => h.elim))
  have HI := Lib.hid hI
  clear hI
  cases hw : validL x.data.toList
  ·gi_wp2_with (first | (refine ⟨trivial, ?_⟩; gi_at_call 88; refine (CallsIn.inRound l (callsIn_wide.2 HV.out)).mono ?_; rintro e w' ⟨rfl, hb⟩; have g0 := (hb.cell (p := ⟨w.heap.size, 0, none⟩) (by have := HI.out.2.2.1; show w.heap.size < _; omega)).trans c0; have e0 := (hb.frozen (p := ⟨w.heap.size, 0, none⟩) (by have := HI.out.2.2.1; show w.heap.size < _; omega)).trans f0; have HB := Lib.hid hb; clear hb))
   have hq := pathI_below w pre pre W _ HI.out HI.out.1 HB.out
   exact ⟨((keepsOthers_below HB.out).trans (KeepsOthers.setCell _ _ _)).from _, rfl, badVal_snoc hw, one_setCell hq.2.1, by simpa [World.setCell] using hq.2.2.1, hq.2.2.2.setCell (p := ⟨w.heap.size, 0, none⟩) (Nat.le_refl _) _⟩
  ·gi_wp2_with (first | (refine ⟨trivial, ?_⟩; gi_at_call 88; refine (CallsIn.inRound l (callsIn_wide.2 HV.out)).mono ?_; rintro e w' ⟨rfl, hb⟩; have HB := Lib.hid hb; clear hb))
   exact ⟨(keepsOthers_below HB.out).from _, keepB_below HB.out (by have := HI.out.2.2.1; intro b hb; simp at hb; omega), pathI_below w pre _ W _ HI.out (allVal_snoc HI.out.1 hw) HB.out⟩
 case done =>
  rintro D ys W hD hS hI hK
  have c0 := cell_of_one hI.2.1
  have f0 := free_of_one hI.2.1
  have HI := Lib.hid hI
  clear hI
  gi_wp2_with fail
  have hK' := (KeepsOthers.setCell W ⟨w.heap.size, 0, none⟩ (.bool true)).same D _ hK rfl
  refine ⟨by simp, .inl ⟨_, _, rfl, run_takeDeferred hK', ?_⟩⟩
  have hc5 := cell_kept (cell_of_one (one_setCell (u := .bool true) HI.out.2.1)) (grownBy_putObj' _ D (.deferred none)) (fun r e => by cases e; exact ⟨_, hK', rfl⟩)
  refine ⟨.bool true, ?_, by rw [pathL_all h hS HI.out.1], (HI.out.2.2.2.setCell (p := ⟨w.heap.size, 0, none⟩) (Nat.le_refl _) _).trans (belowK_b (w := w) (Nat.le_refl _) _ D _ _ (by omega) hK' rfl rfl)⟩
  simp [results, Tryz.f50, go_sem, hc5]
 case stop =>
  rintro D c pre W hD hpre ⟨rfl, hbad, hcr, _, hB⟩ hK
  gi_wp2_with fail
  refine ⟨by simp, .inl ⟨_, _, rfl, run_takeDeferred hK, ?_⟩⟩
  have hc5 := cell_kept (cell_of_one hcr) (grownBy_putObj' _ D (.deferred none)) (fun r e => by cases e; exact ⟨_, hK, rfl⟩)
  refine ⟨.bool false, ?_, by rw [pathL_bad hpre hbad], hB.trans (belowK_b (w := w) (Nat.le_refl _) W D _ _ (by omega) hK rfl rfl)⟩
  simp [results, Tryz.f50, go_sem, hc5]
theorem isPath_c (s : ByteArray) : Con Tryz.prog 50 [.d (.raw (.string s))] (.d (.raw (.bool (pathL s.data.toList)))) :=
 con_rawG (vs := [.string s]) ⟨_, Tryz.func50, by decide +kernel, rfl⟩ rfl (fun _ _ => .d (.raw _)) fun w hG => by
  rcases Nat.lt_or_ge 100 s.size with h | h
  ·exact path_long s w h
  ·exact path_short s w hG h
end
section
open Go Go.RowKit
theorem firstN_zero {f : Nat → Int} : ∀ {n : Nat}, firstN f n = 0 → ∀ i, i < n → f i = 0
 | 0, _, i, h => by omega
 | n + 1, h, i, hi => by
  rw [firstN] at h
  split at h
  ·rename_i h0
   by_cases e : i = n
   ·rw [e]; exact h
   ·exact firstN_zero h0 i (by omega)
  ·rename_i h0; exact absurd h h0
abbrev avO (k : Int) (d : ByteArray) : AV := .agg [.d (.raw (.int .i64 k)), .d (.raw (.string d)), .d (.sl []), .d (.raw (.int .u64 0)), .d (.raw (.int .u64 0)), .d (.sl []), .d (.raw (.string ⟨#[]⟩)), .d (.raw (.int .i64 0)), .d (.raw (.string ⟨#[]⟩))]
set_option maxRecDepth 100000 in
theorem blob_c (d : ByteArray) : Con Tryz.prog 52 [.d (.raw (.string d))] (avO 1 d) := by
 refine con_of Tryz.func52 rfl (by decide +kernel) rfl rfl (by simp [Tryz.ntmps52]) fun A hA => ?_
 rw [Tryz.ntmps52] at hA
 refine goC 400 ?_
 simp only [go_sem, hA, Tryz.results52]
def leS (a b : ByteArray) : Bool := Op.bytesLess a.data.toList b.data.toList || decide (a = b)
def atF (l : List Fl) (i : Nat) : Fl := l.getD i ⟨⟨#[]⟩, ⟨#[]⟩⟩
theorem atF_get (l : List Fl) (i : Nat) (h : i < l.length) : atF l i = l[i] := by simp [atF, List.getD_eq_getElem?_getD, h]
def fileE (l : List Fl) (q : Nat) : Int := if pathL (atF l q).path.data.toList then (if 0 < q ∧ leS (atF l q).path (atF l (q - 1)).path then 10 else 0) else 6
def pathsF (l : List Fl) : List ByteArray := l.foldl (fun fs x => addS fs x.path) []
theorem pathsF_snoc (l : List Fl) (x : Fl) : pathsF (l ++ [x]) = addS (pathsF l) x.path := by simp [pathsF]
def underB (fs : List ByteArray) (s : ByteArray) (i : Nat) : Bool := decide (s.data.toList.getD i 0 = 47) && hasS fs (s.extract 0 i)
def wayB (fs : List ByteArray) (s : ByteArray) : Bool := (List.range s.size).any (underB fs s)
def treeX (l : List Fl) : Int :=
 if 200 < l.length then 4 else if ¬ firstN (fileE l) l.length = 0 then firstN (fileE l) l.length else if l.any fun x => wayB (pathsF l) x.path then 7 else 0
abbrev tc1St (l : List Fl) (q : Nat) : St := ⟨[(0, .d (.sl (encFs l))), (3, .mp 3000), (13, .d (.sl (encFs l))), (14, .d (.raw (.int .i64 l.length))), (15, .d (.raw (.int .i64 q)))], [(3000, some (.map none (keysS (pathsF (l.take q))) (truesS (pathsF (l.take q)))))], []⟩
abbrev tc2St (l : List Fl) (fs : List ByteArray) (q : Nat) : St := ⟨[(3, .mp 3000), (49, .d (.sl (encFs l))), (50, .d (.raw (.int .i64 l.length))), (51, .d (.raw (.int .i64 q)))], [(3000, some (.map none (keysS fs) (truesS fs)))], []⟩
abbrev tc3St (l : List Fl) (fs : List ByteArray) (x : Fl) (q k : Nat) : St := ⟨[(3, .mp 3000), (7, .box 17002 0), (49, .d (.sl (encFs l))), (50, .d (.raw (.int .i64 l.length))), (51, .d (.raw (.int .i64 q))), (57, .d (.raw (.int .i64 x.path.size))), (58, .d (.raw (.int .i64 k)))], [(3000, some (.map none (keysS fs) (truesS fs))), (17002, some (.cell 48 [.d (.raw (.string x.path)), .d (.raw (.string x.data))]))], []⟩
set_option maxRecDepth 100000 in
set_option maxHeartbeats 16000000 in
theorem tree_c (l : List Fl) (hl : l.length ≤ 1048576) (hO : ∀ x ∈ l, Con Tryz.prog 51 [avO 1 x.data] (.d (.raw (.int .i64 0)))) : Con Tryz.prog 22 [.d (.sl (encFs l))] (.d (.raw (.int .i64 (treeX l)))) := by
 refine con_of Tryz.func22 rfl (by decide +kernel) rfl rfl (by simp [Tryz.ntmps22]) fun A hA => ?_
 rw [Tryz.ntmps22] at hA
 refine goC 400 ?_
 by_cases h1 : 200 < l.length
 ·have g1 : decide ((200 : Int) < (l.length : Int)) = true := decide_eq_true (by omega)
  have hr : treeX l = 4 := if_pos h1
  simp only [go_sem, hA, encFs_length, g1, hr, Tryz.results22]
 have g1 : decide ((200 : Int) < (l.length : Int)) = false := decide_eq_false (by omega)
 have hr0 : treeX l = if ¬ firstN (fileE l) l.length = 0 then firstN (fileE l) l.length else if l.any fun x => wayB (pathsF l) x.path then 7 else 0 := if_neg h1
 simp only [go_sem, hA, encFs_length, g1]
 refine satC_loop [0, 3, 13, 14, 15] [3000] [] (fun y σ => ∃ q : Nat, q ≤ l.length ∧ y = l.length - q ∧ firstN (fileE l) q = 0 ∧ σ = tc1St l q) l.length ⟨0, by omega, by omega, rfl, by simp only [go_sem, tc1St]; rfl⟩ ?_
 rintro y σ ⟨q, hq, rfl, hf, rfl⟩
 refine goC 400 ?_
 by_cases hlt : q < l.length
 ·have k1 : decide ((q : Int) < (l.length : Int)) = true := decide_eq_true (by omega)
  have hat := atF_get l q hlt
  have hfe : fileE l q = if pathL l[q].path.data.toList then (if 0 < q ∧ leS l[q].path (atF l (q - 1)).path then 10 else 0) else 6 := by unfold fileE; rw [hat]
  simp only [go_sem, hA, tc1St, encFs_length, k1, Int.toNat_natCast, encFs_at l q hlt, mentL_rep]
  refine ⟨⟨by omega, by omega⟩, ?_⟩
  refine goCall 400 (isPath_c l[q].path) rfl (by simp only [go_sem]) (by simp only [go_sem, hA]) ?_
  cases hp : pathL l[q].path.data.toList with
  | false =>
   rw [hp] at hfe
   have hfe' : fileE l q = 6 := hfe
   rw [firstN_hit hf hlt (by rw [hfe']; decide), hfe'] at hr0
   simp only [go_sem, hA, hr0, Tryz.results22]
   rfl
  | true =>
  rw [hp, if_pos rfl] at hfe
  simp only [go_sem, hA]
  refine goCall 400 (blob_c l[q].data) rfl (by simp only [go_sem]) (by simp only [go_sem, hA]) ?_
  simp only [go_sem]
  refine goCall 400 (hO l[q] (List.getElem_mem hlt)) rfl (by simp only [go_sem]) (by simp only [go_sem, hA]) ?_
  have hsn : pathsF (l.take (q + 1)) = addS (pathsF (l.take q)) l[q].path := by rw [List.take_succ_eq_append_getElem hlt, pathsF_snoc]
  by_cases hq0 : 0 < q
  ·have k2 : decide ((0 : Int) < (q : Int)) = true := decide_eq_true (by omega)
   have hq1 : ((q : Int) - 1).toNat = q - 1 := by omega
   have hat1 := atF_get l (q - 1) (by omega)
   have hin : inI64 ((q : Int) - 1) := by unfold inI64; omega
   rw [hat1] at hfe
   cases hle : leS l[q].path l[q - 1].path with
   | true =>
    have hle' : (Op.bytesLess l[q].path.data.toList l[q - 1].path.data.toList || decide (l[q].path = l[q - 1].path)) = true := hle
    rw [if_pos ⟨hq0, hle⟩] at hfe
    rw [firstN_hit hf hlt (by rw [hfe]; decide), hfe] at hr0
    simp only [go_sem, hA, k2, encFs_length, hq1, encFs_at l (q - 1) (by omega), hle', hr0, mixed, Tryz.results22]
    exact ⟨hin, ⟨by omega, by omega⟩, by show chk _ _ _ = true; kernel_rfl, by rfl⟩
   | false =>
    have hle' : (Op.bytesLess l[q].path.data.toList l[q - 1].path.data.toList || decide (l[q].path = l[q - 1].path)) = false := hle
    rw [if_neg fun h => by rw [hle] at h; cases h.2] at hfe
    simp only [go_sem, hA, k2, encFs_length, hq1, encFs_at l (q - 1) (by omega), hle', mixed]
    refine ⟨hin, ⟨by omega, by omega⟩, by show chk _ _ _ = true; kernel_rfl, keysS_fit _, by unfold inI64; omega, l.length - (q + 1), by omega, q + 1, by omega, rfl, firstN_step hf hfe, ?_⟩
    rw [hsn, ← putK_str, ← putC_str]; rfl
  ·have k2 : decide ((0 : Int) < (q : Int)) = false := decide_eq_false (by omega)
   rw [if_neg fun h => hq0 h.1] at hfe
   simp only [go_sem, hA, k2, undef, mixed]
   refine ⟨by show chk _ _ _ = true; kernel_rfl, keysS_fit _, by unfold inI64; omega, l.length - (q + 1), by omega, q + 1, by omega, rfl, firstN_step hf hfe, ?_⟩
   rw [hsn, ← putK_str, ← putC_str]; rfl
 have k1 : decide ((q : Int) < (l.length : Int)) = false := decide_eq_false (by omega)
 obtain rfl : q = l.length := by omega
 rw [if_neg (by simp [hf])] at hr0
 simp only [go_sem, hA, tc1St, k1, List.take_length, encFs_length]
 generalize pathsF l = fs at hr0 ⊢
 refine satC_loop [3, 49, 50, 51] [3000] [] (fun y σ => ∃ q : Nat, q ≤ l.length ∧ y = l.length - q ∧ ((l.take q).any fun x => wayB fs x.path) = false ∧ σ = tc2St l fs q) l.length ⟨0, by omega, by omega, rfl, by simp only [go_sem, tc2St]⟩ ?_
 rintro y σ ⟨q, hq, rfl, hf2, rfl⟩
 refine goC 400 ?_
 by_cases hlt : q < l.length
 case neg =>
  have k1 : decide ((q : Int) < (l.length : Int)) = false := decide_eq_false (by omega)
  obtain rfl : q = l.length := by omega
  rw [List.take_length] at hf2
  rw [hf2] at hr0
  simp only [go_sem, hA, tc2St, k1, hr0, Tryz.results22]
 have k1 : decide ((q : Int) < (l.length : Int)) = true := decide_eq_true (by omega)
 obtain ⟨x, hx⟩ : ∃ x, l[q] = x := ⟨_, rfl⟩
 have hxl : x ∈ l := by rw [← hx]; exact List.getElem_mem hlt
 have hsx : x.path.size ≤ 100 := by
  have h := firstN_zero hf q hlt
  unfold fileE at h
  rw [atF_get l q hlt, hx] at h
  split at h
  ·rename_i h2
   unfold pathL at h2
   simp only [Bool.and_eq_true, decide_eq_true_eq] at h2
   have := h2.1
   simpa using this
  ·cases h
 simp only [go_sem, hA, tc2St, encFs_length, k1, Int.toNat_natCast, encFs_at l q hlt, hx, mentL_rep]
 refine ⟨⟨by omega, by omega⟩, ?_⟩
 refine satC_loop [3, 7, 49, 50, 51, 57, 58] [3000, 17002] [] (fun y σ => ∃ k : Nat, k ≤ x.path.size ∧ y = x.path.size - k ∧ ((List.range k).any (underB fs x.path)) = false ∧ σ = tc3St l fs x q k) x.path.size ⟨0, by omega, by omega, rfl, by simp only [go_sem, tc3St]⟩ ?_
 rintro y σ ⟨k, hk, rfl, hf3, rfl⟩
 refine goC 400 ?_
 by_cases hkl : k < x.path.size
 case neg =>
  have k2 : decide ((k : Int) < (x.path.size : Int)) = false := decide_eq_false (by omega)
  obtain rfl : k = x.path.size := by omega
  simp only [go_sem, hA, tc3St, k2]
  exact ⟨by unfold inI64; omega, l.length - (q + 1), by omega, q + 1, by omega, rfl, any_step hlt hf2 (by rw [hx]; exact hf3), rfl⟩
 have k2 : decide ((k : Int) < (x.path.size : Int)) = true := decide_eq_true (by omega)
 have hun : underB fs x.path k = (decide ((x.path.data.toList.getD k 0).toNat = 47) && hasS fs (x.path.extract 0 k)) := by
  unfold underB
  congr 1
  exact decide_eq_decide.2 ⟨fun h => by rw [h]; rfl, fun h => UInt8.toNat_inj.1 h⟩
 have hstep : underB fs x.path k = false → ((List.range (k + 1)).any (underB fs x.path)) = false := fun h => by rw [List.range_succ, List.any_append, hf3]; simp [h]
 cases h47 : decide (((x.path.data.toList.getD k 0).toNat : Int) = 47) with
 | false =>
  have hu := hstep (by rw [hun, decide_eq_false (fun h => by have := of_decide_eq_false h47; omega)]; rfl)
  simp only [go_sem, hA, tc3St, k2, Int.toNat_natCast, h47, undef]
  exact ⟨⟨by omega, by omega⟩, by unfold inI64; omega, x.path.size - (k + 1), by omega, k + 1, by omega, rfl, hu, rfl⟩
 | true =>
  have h47' : (x.path.data.toList.getD k 0).toNat = 47 := by have := of_decide_eq_true h47; omega
  cases hh : hasS fs (x.path.extract 0 k) with
  | true =>
   obtain ⟨j, hj1, hj2⟩ := find_some hh
   have hr1 : treeX l = 7 := by
    rw [hr0, if_pos]
    exact List.any_eq_true.2 ⟨x, hxl, List.any_eq_true.2 ⟨k, List.mem_range.2 hkl, by rw [hun, hh, decide_eq_true h47']; rfl⟩⟩
   simp only [go_sem, hA, tc3St, k2, Int.toNat_natCast, h47, hj1, hj2, hr1, Tryz.results22]
   exact ⟨⟨by omega, by omega⟩, ⟨by omega, by omega⟩, keysS_fit _⟩
  | false =>
   have hj := find_none hh
   have hu := hstep (by rw [hun, hh, Bool.and_false])
   simp only [go_sem, hA, tc3St, k2, Int.toNat_natCast, h47, hj]
   exact ⟨⟨by omega, by omega⟩, ⟨by omega, by omega⟩, keysS_fit _, by unfold inI64; omega, x.path.size - (k + 1), by omega, k + 1, by omega, rfl, hu, rfl⟩
end
section
open Go Go.RowKit Go.Shelf
attribute [local go_sem] Oper.semAt_some
def putL (n : Nat) : List UInt8 := if h : n < 128 then [n.toUInt8] else (n % 128 + 128).toUInt8 :: putL (n / 128)
termination_by n
decreasing_by omega
theorem putL_lt {n : Nat} (h : n < 128) : putL n = [n.toUInt8] := by rw [putL, dif_pos h]
theorem putL_ge {n : Nat} (h : ¬ n < 128) : putL n = (n % 128 + 128).toUInt8 :: putL (n / 128) := by rw [putL, dif_neg h]
theorem putL_len (n : Nat) : (putL n).length ≤ n + 1 := by
 induction n using Nat.strongRecOn with
 | ind n ih =>
  by_cases h : n < 128
  ·simp [putL_lt h]
  ·rw [putL_ge h]; have := ih (n / 128) (by omega); simp; omega
def StoreI (b : Nat) (A B : World) : Prop := ∃ r : Int, B = A.setCell ⟨b, 0, none⟩ (.int .i64 r)
def boxNat (w : World) (b : Nat) : Nat := match w.cell? ⟨b, 0, none⟩ with | some (Value.int _ r) => r.toNat | _ => 0
theorem boxNat_eq {w : World} {b t : Nat} {r : Int} (h : w.heap[b]? = some (.cells #[.int .i64 r] t (0, 0))) : boxNat w b = r.toNat := by simp [boxNat, cell_of_one h]
set_option maxRecDepth 100000 in
set_option maxHeartbeats 2000000 in
theorem dig_in (n l b1 : Nat) (hn1 : 1 ≤ n) (m : Nat) (hm : m ≤ 1099511627776) (J Jx : List UInt8 → World → Prop)
  (hJ : ∀ pre A B, J pre A → StoreI b1 A B → J pre B)
  (hY : ∀ pre x A, J pre A → pre.length < (putL m).length → YieldAt Fence.wide (n - 1) Tryz.prog l #[.int .u8 x.toNat] A fun e B =>
   (e = .returned (.bool true) ∧ J (pre ++ [x]) B ∧ KeepB [b1] A B) ∨ (e = .returned (.bool false) ∧ Jx (pre ++ [x]) B))
  (W : World) (hb1 : W.heap[b1]? = some (.cells #[.int .i64 m] 3 (0, 0))) (h0 : J [] W) :
  CallsIn Fence.wide n Tryz.prog 241 #[.func (.yield l) #[] #[], .pointer (some ⟨b1, 0, none⟩)] W fun e B => (∃ v, e = .returned v) ∧
   ((∃ xs : List UInt8, xs = putL m ∧ J xs B) ∨ (∃ pre : List UInt8, pre <+: putL m ∧ Jx pre B)) := by
 have c1 := cell_of_one hb1
 refine callsIn_of_wp Tryz.func241 rfl trivial ?_ rfl
 simp only [Tryz.ntmps241, List.size_toArray, List.length_cons, List.length_nil, Nat.reduceAdd, Nat.reduceSub, Array.replicate_succ, Array.replicate_zero, List.push_toArray, List.append_toArray, List.nil_append, List.cons_append]
 gi_wp2_with fail
 gi_loopw [] (fun wr => ∃ (pre : List UInt8) (r : Nat), wr.heap[b1]? = some (.cells #[.int .i64 r] 3 (0, 0)) ∧
   r ≤ 1099511627776 ∧ J pre wr ∧ Hid (pre ++ putL r = putL m)) (fun wr => boxNat wr b1)
 case atStart => exact ⟨[], m, hb1, hm, h0, Lib.hid rfl⟩
 case round =>
  obtain ⟨pre, r, hr1, hrm, hJr, hP⟩ := hrel
  have d1 := cell_of_one hr1
  have f1 := free_of_one hr1
  have HR1 := Lib.hid hr1
  clear hr1 c1 hb1
  by_cases hlt : r < 128
  ·have hge : decide ((128 : Int) ≤ (r : Int)) = false := by simp; omega
   have hy0 := hY pre r.toUInt8 wr hJr (by rw [← hP.out, putL_lt hlt]; simp)
   have hv : ((r.toUInt8.toNat : Nat) : Int) = (r : Int) := by simp [Nat.toUInt8]; omega
   rw [hv] at hy0
   have HN := Lib.hid (putL_lt hlt)
   clear hv
   obtain ⟨fn, tmps, assign, body, hy, hR⟩ := hy0
   gi_wp2_with fail
   refine hR.mono ?_
   rintro e W3 (⟨rfl, hJ3, hk3⟩ | ⟨rfl, hJx3⟩)
   ·gi_wp2_with fail
    go_end0
    exact ⟨⟨_, rfl⟩, .inl ⟨_, by rw [← hP.out, HN.out], hJ3⟩⟩
   ·gi_wp2_with fail
    go_end0
    exact ⟨⟨_, rfl⟩, .inr ⟨_, by rw [← hP.out, HN.out]; exact List.prefix_rfl, hJx3⟩⟩
  ·have hge : decide ((128 : Int) ≤ (r : Int)) = true := by simp; omega
   have hy0 := hY pre (r % 128 + 128).toUInt8 wr hJr (by rw [← hP.out, putL_ge hlt]; simp)
   have hv : (((r % 128 + 128).toUInt8.toNat : Nat) : Int) = (r : Int) % 128 + 128 := by simp [Nat.toUInt8]; omega
   rw [hv] at hy0
   have HN := Lib.hid (putL_ge hlt)
   have HL := Lib.hid hlt
   clear hv
   obtain ⟨fn, tmps, assign, body, hy, hR⟩ := hy0
   gi_wp2_with fail
   refine hR.mono ?_
   rintro e W3 (⟨rfl, hJ3, hk3⟩ | ⟨rfl, hJx3⟩)
   ·have k1 : W3.heap[b1]? = _ := (hk3 b1 (by simp)).trans HR1.out
    have g1 := cell_of_one k1
    have e1 := free_of_one k1
    have K1 := Lib.hid k1
    have hk3' := Lib.hid hk3
    clear k1 d1 f1 hk3
    gi_wp2_with fail
    go_roundw
    case rel =>
     refine ⟨_, r / 128, one_setCell K1.out, by omega, hJ _ _ _ hJ3 ⟨_, rfl⟩, Lib.hid ?_⟩
     rw [← hP.out, HN.out]
     simp
    case measure => rw [boxNat_eq (one_setCell K1.out), boxNat_eq HR1.out]; have := HL.out; simp; omega
   ·gi_wp2_with fail
    refine bodyPost_ret (results_none rfl _ _ _) rfl ?_
    exact ⟨⟨_, rfl⟩, .inr ⟨_, ⟨putL (r / 128), by rw [← hP.out, HN.out]; simp⟩, hJx3⟩⟩
end
end Go.Proofs.YtnjedgpidalioaaGreatDoor
