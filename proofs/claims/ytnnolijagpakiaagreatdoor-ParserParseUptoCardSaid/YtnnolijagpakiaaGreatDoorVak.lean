/- Texts of this proof, part 11: what the proof uses of them. -/
import Derived.Test.YtnnolijagpakiaaGreatDoorVaj
import Derived.Deep.Light
namespace Go.Proofs.YtnnolijagpakiaaGreatDoor
section
open Go.RowKit
def StrsAt (w : World) (v : Value) (l : List ByteArray) : Prop :=
 ∃ (p : Option Addr) (cap : Nat), v = .slice p l.length cap ∧ l.length ≤ cap ∧ ∀ i (h : i < l.length), ∃ b off, p = some ⟨b, off, none⟩ ∧ b < w.heap.size ∧ w.cell? ⟨b, off + i, none⟩ = some (.string l[i])
def hasB (l : List ByteArray) (s : ByteArray) : Bool := l.any fun x => decide (x = s)
theorem hasB_of {l : List ByteArray} {s : ByteArray} {j : Nat} (h : j < l.length) (he : l[j] = s) : hasB l s = true := by
 rw [hasB, List.any_eq_true]; exact ⟨l[j], List.getElem_mem h, by simpa using he⟩
theorem hasB_no {l : List ByteArray} {s : ByteArray} (h : ∀ i (hi : i < l.length), l[i] ≠ s) : hasB l s = false := by
 rw [hasB, List.any_eq_false]; intro x hx
 obtain ⟨i, hi, rfl⟩ := List.getElem_of_mem hx
 simpa using h i hi
set_option maxHeartbeats 400000 in
theorem rHas_any (l : List ByteArray) (s : ByteArray) (v : Value) (w : World) (hl : l.length ≤ 1099511627776) (hv : StrsAt w v l) :
  Calls Tryz.prog 167 #[v, .string s] w fun e w' => e = .returned (.bool (hasB l s)) ∧ w = w' := by
 obtain ⟨p, cap, rfl, hc, hk⟩ := hv
 have HK := Lib.hid hk
 clear hk
 go_enter Tryz.func167, Tryz.ntmps167
 go_wp2_with fail
 go_loop [5] (fun i => ∃ j : Nat, j ≤ l.length ∧ i = .int .i64 j ∧ Hid (∀ i (hi : i < l.length), i < j → l[i] ≠ s)) (fun i => l.length - (intOf i).toNat)
 case atStart => exact ⟨0, by omega, rfl, Lib.hid (fun i _ h => absurd h (by omega))⟩
 case round =>
  obtain ⟨j, hj, rfl, HP⟩ := hrel
  by_cases hlt : j < l.length
  ·obtain ⟨b, off, rfl, _, hc⟩ := HK.out j hlt
   by_cases he : l[j] = s
   ·have HF := Lib.hid (hasB_of hlt he)
    rw [he] at hc
    clear he
    go_wp2_with fail
    go_ret
    exact ⟨by rw [HF.out]; rfl, rfl⟩
   ·have HE := Lib.hid he
    have f2 : (l[j].toList == s.toList) = false := (Lib.bytes_beq_false_iff _ _).2 he
    clear he
    go_wp2_with fail
    go_round
    case rel => exact ⟨j + 1, by omega, by go_num, Lib.hid (fun i hi h => by
     rcases Nat.lt_or_ge i j with h1 | h1
     ·exact HP.out i hi h1
     ·obtain rfl : i = j := by omega
      exact HE.out)⟩
    case measure => simp [intOf]; omega
  ·have HF := Lib.hid (hasB_no (l := l) (s := s) (fun i hi => HP.out i hi (by omega)))
   go_wp2_with fail
   go_ret
   exact ⟨by rw [HF.out]; rfl, rfl⟩
def reservedL : List ByteArray := [⟨#[99, 97, 115, 101]⟩, ⟨#[99, 104, 97, 110, 99, 101]⟩, ⟨#[99, 111, 110, 102, 108, 105, 99, 116]⟩, ⟨#[101, 108, 115, 101]⟩, ⟨#[102, 97, 108, 115, 101]⟩, ⟨#[102, 108, 97, 107, 121]⟩, ⟨#[102, 117, 110]⟩, ⟨#[105, 102]⟩, ⟨#[105, 110]⟩, ⟨#[108, 101, 116]⟩, ⟨#[110, 105, 108]⟩, ⟨#[111, 102]⟩, ⟨#[112, 117, 98]⟩, ⟨#[116, 101, 115, 116]⟩, ⟨#[116, 104, 101, 110]⟩, ⟨#[116, 114, 117, 101]⟩, ⟨#[117, 115, 101]⟩]
theorem strsAt_new (w : World) (T : TypeId) (l : List ByteArray) : StrsAt (w.alloc (.cells (l.map Value.string).toArray T)) (.slice (some ⟨w.heap.size, 0, none⟩) l.length l.length) l :=
 ⟨_, _, rfl, Nat.le_refl _, fun i h => ⟨w.heap.size, 0, rfl, by simp, by simp [go_sem, h]⟩⟩
theorem rReserved_any (w : World) :
  Calls Tryz.prog 168 #[] w fun e w' => ∃ v, e = .returned v ∧ Below w.heap.size w w' ∧ StrsAt w' v reservedL := by
 go_enter Tryz.func168, Tryz.ntmps168
 go_wp2_with fail
 go_ret
 exact ⟨_, rfl, (Below.refl _ _).alloc (Nat.le_refl _) _, strsAt_new w 9 reservedL⟩
def nameB (s : ByteArray) : Bool := wordL 24 s.data.toList && !hasB reservedL s
set_option maxHeartbeats 400000 in
theorem rName_any (s : ByteArray) (w : World) :
  Calls Tryz.prog 127 #[.string s] w fun e w' => e = .returned (.bool (nameB s)) ∧ Below w.heap.size w w' := by
 cases hw : wordL 24 s.data.toList
 ·have HR := Lib.hid (rWord_any s w)
  rw [hw] at HR
  have HE : Hid (nameB s = false) := Lib.hid (by simp [nameB, hw])
  clear hw
  go_enter Tryz.func127, Tryz.ntmps127
  go_wp2_with (go_at_call 164; refine (HR.out).mono ?_; rintro e w' ⟨rfl, rfl⟩)
  go_ret
  exact ⟨by rw [HE.out]; rfl, Below.refl _ _⟩
 ·have HR := Lib.hid (rWord_any s w)
  rw [hw] at HR
  have HE : Hid (nameB s = !hasB reservedL s) := Lib.hid (by simp [nameB, hw])
  clear hw
  go_enter Tryz.func127, Tryz.ntmps127
  go_wp2_with (first
   | (go_at_call 164; refine (HR.out).mono ?_; rintro e w' ⟨rfl, rfl⟩)
   | (go_at_call 168; refine (rReserved_any _).mono ?_; rintro e w1 ⟨v, rfl, hb, hst⟩)
   | (go_at_call 167; refine (rHas_any reservedL s v _ (by decide) hst).mono ?_; rintro e w' ⟨rfl, rfl⟩))
  go_ret
  exact ⟨by rw [HE.out]; rfl, hb⟩
end
section
open Go.RowKit
def shapeK (k : Int) : Option (Nat × Nat × Nat) :=
 if k = 1 then some (0, 1, 0) else
 if k = 2 then some (0, 1, 0) else
 if k = 3 then some (1, 0, 0) else
 if k = 4 then some (2, 0, 0) else
 if k = 5 then some (1, 1, 0) else
 if k = 6 then some (1, 0, 1) else
 if k = 7 then some (0, 0, 2) else
 if k = 8 then some (1, 0, 2) else
 if k = 9 then some (0, 0, 3) else
 if k = 10 then some (1, 0, 2) else
 if k = 11 then some (0, 0, 0) else
 if k = 12 then some (0, 0, 2) else
 if k = 13 then some (2, 0, 3) else
 if k = 14 then some (0, 2, 0) else
 if k = 15 then some (0, 0, 3) else
 none
theorem shapeK_cases {k : Int} {s : Nat × Nat × Nat} (h : shapeK k = some s) : (k = 1 ∧ s = (0, 1, 0)) ∨ (k = 2 ∧ s = (0, 1, 0)) ∨ (k = 3 ∧ s = (1, 0, 0)) ∨ (k = 4 ∧ s = (2, 0, 0)) ∨ (k = 5 ∧ s = (1, 1, 0)) ∨ (k = 6 ∧ s = (1, 0, 1)) ∨ (k = 7 ∧ s = (0, 0, 2)) ∨ (k = 8 ∧ s = (1, 0, 2)) ∨ (k = 9 ∧ s = (0, 0, 3)) ∨ (k = 10 ∧ s = (1, 0, 2)) ∨ (k = 11 ∧ s = (0, 0, 0)) ∨ (k = 12 ∧ s = (0, 0, 2)) ∨ (k = 13 ∧ s = (2, 0, 3)) ∨ (k = 14 ∧ s = (0, 2, 0)) ∨ (k = 15 ∧ s = (0, 0, 3)) := by
 unfold shapeK at h
 by_cases e1 : k = 1
 ·rw [if_pos e1] at h; exact .inl ⟨e1, (Option.some.inj h).symm⟩
 rw [if_neg e1] at h
 by_cases e2 : k = 2
 ·rw [if_pos e2] at h; exact .inr (.inl ⟨e2, (Option.some.inj h).symm⟩)
 rw [if_neg e2] at h
 by_cases e3 : k = 3
 ·rw [if_pos e3] at h; exact .inr (.inr (.inl ⟨e3, (Option.some.inj h).symm⟩))
 rw [if_neg e3] at h
 by_cases e4 : k = 4
 ·rw [if_pos e4] at h; exact .inr (.inr (.inr (.inl ⟨e4, (Option.some.inj h).symm⟩)))
 rw [if_neg e4] at h
 by_cases e5 : k = 5
 ·rw [if_pos e5] at h; exact .inr (.inr (.inr (.inr (.inl ⟨e5, (Option.some.inj h).symm⟩))))
 rw [if_neg e5] at h
 by_cases e6 : k = 6
 ·rw [if_pos e6] at h; exact .inr (.inr (.inr (.inr (.inr (.inl ⟨e6, (Option.some.inj h).symm⟩)))))
 rw [if_neg e6] at h
 by_cases e7 : k = 7
 ·rw [if_pos e7] at h; exact .inr (.inr (.inr (.inr (.inr (.inr (.inl ⟨e7, (Option.some.inj h).symm⟩))))))
 rw [if_neg e7] at h
 by_cases e8 : k = 8
 ·rw [if_pos e8] at h; exact .inr (.inr (.inr (.inr (.inr (.inr (.inr (.inl ⟨e8, (Option.some.inj h).symm⟩)))))))
 rw [if_neg e8] at h
 by_cases e9 : k = 9
 ·rw [if_pos e9] at h; exact .inr (.inr (.inr (.inr (.inr (.inr (.inr (.inr (.inl ⟨e9, (Option.some.inj h).symm⟩))))))))
 rw [if_neg e9] at h
 by_cases e10 : k = 10
 ·rw [if_pos e10] at h; exact .inr (.inr (.inr (.inr (.inr (.inr (.inr (.inr (.inr (.inl ⟨e10, (Option.some.inj h).symm⟩)))))))))
 rw [if_neg e10] at h
 by_cases e11 : k = 11
 ·rw [if_pos e11] at h; exact .inr (.inr (.inr (.inr (.inr (.inr (.inr (.inr (.inr (.inr (.inl ⟨e11, (Option.some.inj h).symm⟩))))))))))
 rw [if_neg e11] at h
 by_cases e12 : k = 12
 ·rw [if_pos e12] at h; exact .inr (.inr (.inr (.inr (.inr (.inr (.inr (.inr (.inr (.inr (.inr (.inl ⟨e12, (Option.some.inj h).symm⟩)))))))))))
 rw [if_neg e12] at h
 by_cases e13 : k = 13
 ·rw [if_pos e13] at h; exact .inr (.inr (.inr (.inr (.inr (.inr (.inr (.inr (.inr (.inr (.inr (.inr (.inl ⟨e13, (Option.some.inj h).symm⟩))))))))))))
 rw [if_neg e13] at h
 by_cases e14 : k = 14
 ·rw [if_pos e14] at h; exact .inr (.inr (.inr (.inr (.inr (.inr (.inr (.inr (.inr (.inr (.inr (.inr (.inr (.inl ⟨e14, (Option.some.inj h).symm⟩)))))))))))))
 rw [if_neg e14] at h
 by_cases e15 : k = 15
 ·rw [if_pos e15] at h; exact .inr (.inr (.inr (.inr (.inr (.inr (.inr (.inr (.inr (.inr (.inr (.inr (.inr (.inr (⟨e15, (Option.some.inj h).symm⟩))))))))))))))
 rw [if_neg e15] at h
 cases h
theorem shapeK_none {k : Int} (h : shapeK k = none) : (k == 1) = false ∧ (k == 2) = false ∧ (k == 3) = false ∧ (k == 4) = false ∧ (k == 5) = false ∧ (k == 6) = false ∧ (k == 7) = false ∧ (k == 8) = false ∧ (k == 9) = false ∧ (k == 10) = false ∧ (k == 11) = false ∧ (k == 12) = false ∧ (k == 13) = false ∧ (k == 14) = false ∧ (k == 15) = false := by
 unfold shapeK at h
 by_cases e1 : k = 1
 ·rw [if_pos e1] at h; cases h
 rw [if_neg e1] at h
 by_cases e2 : k = 2
 ·rw [if_pos e2] at h; cases h
 rw [if_neg e2] at h
 by_cases e3 : k = 3
 ·rw [if_pos e3] at h; cases h
 rw [if_neg e3] at h
 by_cases e4 : k = 4
 ·rw [if_pos e4] at h; cases h
 rw [if_neg e4] at h
 by_cases e5 : k = 5
 ·rw [if_pos e5] at h; cases h
 rw [if_neg e5] at h
 by_cases e6 : k = 6
 ·rw [if_pos e6] at h; cases h
 rw [if_neg e6] at h
 by_cases e7 : k = 7
 ·rw [if_pos e7] at h; cases h
 rw [if_neg e7] at h
 by_cases e8 : k = 8
 ·rw [if_pos e8] at h; cases h
 rw [if_neg e8] at h
 by_cases e9 : k = 9
 ·rw [if_pos e9] at h; cases h
 rw [if_neg e9] at h
 by_cases e10 : k = 10
 ·rw [if_pos e10] at h; cases h
 rw [if_neg e10] at h
 by_cases e11 : k = 11
 ·rw [if_pos e11] at h; cases h
 rw [if_neg e11] at h
 by_cases e12 : k = 12
 ·rw [if_pos e12] at h; cases h
 rw [if_neg e12] at h
 by_cases e13 : k = 13
 ·rw [if_pos e13] at h; cases h
 rw [if_neg e13] at h
 by_cases e14 : k = 14
 ·rw [if_pos e14] at h; cases h
 rw [if_neg e14] at h
 by_cases e15 : k = 15
 ·rw [if_pos e15] at h; cases h
 rw [if_neg e15] at h
 exact ⟨by simpa using e1, by simpa using e2, by simpa using e3, by simpa using e4, by simpa using e5, by simpa using e6, by simpa using e7, by simpa using e8, by simpa using e9, by simpa using e10, by simpa using e11, by simpa using e12, by simpa using e13, by simpa using e14, by simpa using e15⟩
theorem rshapeOf_1 (w : World) : Calls Tryz.prog 149 #[.int .i64 1] w fun e w' => e = .returned (.tuple #[.agg #[.bool false, .bool false, .bool true, .bool false, .int .i64 0], .bool true]) ∧ Below w.heap.size w w' := by
 go_enter Tryz.func149, Tryz.ntmps149
 go_wp2_with fail
 exact bodyPost_ret (v := .tuple #[.agg #[.bool false, .bool false, .bool true, .bool false, .int .i64 0], .bool true]) (by simp [results, Tryz.results149, go_sem]) rfl ⟨rfl, (Below.refl _ _).alloc (Nat.le_refl _) _⟩
theorem rshapeOf_2 (w : World) : Calls Tryz.prog 149 #[.int .i64 2] w fun e w' => e = .returned (.tuple #[.agg #[.bool false, .bool false, .bool true, .bool false, .int .i64 0], .bool true]) ∧ Below w.heap.size w w' := by
 go_enter Tryz.func149, Tryz.ntmps149
 go_wp2_with fail
 exact bodyPost_ret (v := .tuple #[.agg #[.bool false, .bool false, .bool true, .bool false, .int .i64 0], .bool true]) (by simp [results, Tryz.results149, go_sem]) rfl ⟨rfl, (Below.refl _ _).alloc (Nat.le_refl _) _⟩
theorem rshapeOf_3 (w : World) : Calls Tryz.prog 149 #[.int .i64 3] w fun e w' => e = .returned (.tuple #[.agg #[.bool true, .bool false, .bool false, .bool false, .int .i64 0], .bool true]) ∧ Below w.heap.size w w' := by
 go_enter Tryz.func149, Tryz.ntmps149
 go_wp2_with fail
 exact bodyPost_ret (v := .tuple #[.agg #[.bool true, .bool false, .bool false, .bool false, .int .i64 0], .bool true]) (by simp [results, Tryz.results149, go_sem]) rfl ⟨rfl, (Below.refl _ _).alloc (Nat.le_refl _) _⟩
theorem rshapeOf_4 (w : World) : Calls Tryz.prog 149 #[.int .i64 4] w fun e w' => e = .returned (.tuple #[.agg #[.bool true, .bool true, .bool false, .bool false, .int .i64 0], .bool true]) ∧ Below w.heap.size w w' := by
 go_enter Tryz.func149, Tryz.ntmps149
 go_wp2_with fail
 exact bodyPost_ret (v := .tuple #[.agg #[.bool true, .bool true, .bool false, .bool false, .int .i64 0], .bool true]) (by simp [results, Tryz.results149, go_sem]) rfl ⟨rfl, (Below.refl _ _).alloc (Nat.le_refl _) _⟩
theorem rshapeOf_5 (w : World) : Calls Tryz.prog 149 #[.int .i64 5] w fun e w' => e = .returned (.tuple #[.agg #[.bool true, .bool false, .bool true, .bool false, .int .i64 0], .bool true]) ∧ Below w.heap.size w w' := by
 go_enter Tryz.func149, Tryz.ntmps149
 go_wp2_with fail
 exact bodyPost_ret (v := .tuple #[.agg #[.bool true, .bool false, .bool true, .bool false, .int .i64 0], .bool true]) (by simp [results, Tryz.results149, go_sem]) rfl ⟨rfl, (Below.refl _ _).alloc (Nat.le_refl _) _⟩
theorem rshapeOf_6 (w : World) : Calls Tryz.prog 149 #[.int .i64 6] w fun e w' => e = .returned (.tuple #[.agg #[.bool true, .bool false, .bool false, .bool false, .int .i64 1], .bool true]) ∧ Below w.heap.size w w' := by
 go_enter Tryz.func149, Tryz.ntmps149
 go_wp2_with fail
 exact bodyPost_ret (v := .tuple #[.agg #[.bool true, .bool false, .bool false, .bool false, .int .i64 1], .bool true]) (by simp [results, Tryz.results149, go_sem]) rfl ⟨rfl, (Below.refl _ _).alloc (Nat.le_refl _) _⟩
theorem rshapeOf_7 (w : World) : Calls Tryz.prog 149 #[.int .i64 7] w fun e w' => e = .returned (.tuple #[.agg #[.bool false, .bool false, .bool false, .bool false, .int .i64 2], .bool true]) ∧ Below w.heap.size w w' := by
 go_enter Tryz.func149, Tryz.ntmps149
 go_wp2_with fail
 exact bodyPost_ret (v := .tuple #[.agg #[.bool false, .bool false, .bool false, .bool false, .int .i64 2], .bool true]) (by simp [results, Tryz.results149, go_sem]) rfl ⟨rfl, (Below.refl _ _).alloc (Nat.le_refl _) _⟩
theorem rshapeOf_8 (w : World) : Calls Tryz.prog 149 #[.int .i64 8] w fun e w' => e = .returned (.tuple #[.agg #[.bool true, .bool false, .bool false, .bool false, .int .i64 2], .bool true]) ∧ Below w.heap.size w w' := by
 go_enter Tryz.func149, Tryz.ntmps149
 go_wp2_with fail
 exact bodyPost_ret (v := .tuple #[.agg #[.bool true, .bool false, .bool false, .bool false, .int .i64 2], .bool true]) (by simp [results, Tryz.results149, go_sem]) rfl ⟨rfl, (Below.refl _ _).alloc (Nat.le_refl _) _⟩
theorem rshapeOf_9 (w : World) : Calls Tryz.prog 149 #[.int .i64 9] w fun e w' => e = .returned (.tuple #[.agg #[.bool false, .bool false, .bool false, .bool false, .int .i64 3], .bool true]) ∧ Below w.heap.size w w' := by
 go_enter Tryz.func149, Tryz.ntmps149
 go_wp2_with fail
 exact bodyPost_ret (v := .tuple #[.agg #[.bool false, .bool false, .bool false, .bool false, .int .i64 3], .bool true]) (by simp [results, Tryz.results149, go_sem]) rfl ⟨rfl, (Below.refl _ _).alloc (Nat.le_refl _) _⟩
theorem rshapeOf_10 (w : World) : Calls Tryz.prog 149 #[.int .i64 10] w fun e w' => e = .returned (.tuple #[.agg #[.bool true, .bool false, .bool false, .bool false, .int .i64 2], .bool true]) ∧ Below w.heap.size w w' := by
 go_enter Tryz.func149, Tryz.ntmps149
 go_wp2_with fail
 exact bodyPost_ret (v := .tuple #[.agg #[.bool true, .bool false, .bool false, .bool false, .int .i64 2], .bool true]) (by simp [results, Tryz.results149, go_sem]) rfl ⟨rfl, (Below.refl _ _).alloc (Nat.le_refl _) _⟩
theorem rshapeOf_11 (w : World) : Calls Tryz.prog 149 #[.int .i64 11] w fun e w' => e = .returned (.tuple #[.agg #[.bool false, .bool false, .bool false, .bool false, .int .i64 0], .bool true]) ∧ Below w.heap.size w w' := by
 go_enter Tryz.func149, Tryz.ntmps149
 go_wp2_with fail
 exact bodyPost_ret (v := .tuple #[.agg #[.bool false, .bool false, .bool false, .bool false, .int .i64 0], .bool true]) (by simp [results, Tryz.results149, go_sem]) rfl ⟨rfl, (Below.refl _ _).alloc (Nat.le_refl _) _⟩
theorem rshapeOf_12 (w : World) : Calls Tryz.prog 149 #[.int .i64 12] w fun e w' => e = .returned (.tuple #[.agg #[.bool false, .bool false, .bool false, .bool false, .int .i64 2], .bool true]) ∧ Below w.heap.size w w' := by
 go_enter Tryz.func149, Tryz.ntmps149
 go_wp2_with fail
 exact bodyPost_ret (v := .tuple #[.agg #[.bool false, .bool false, .bool false, .bool false, .int .i64 2], .bool true]) (by simp [results, Tryz.results149, go_sem]) rfl ⟨rfl, (Below.refl _ _).alloc (Nat.le_refl _) _⟩
theorem rshapeOf_13 (w : World) : Calls Tryz.prog 149 #[.int .i64 13] w fun e w' => e = .returned (.tuple #[.agg #[.bool true, .bool true, .bool false, .bool false, .int .i64 3], .bool true]) ∧ Below w.heap.size w w' := by
 go_enter Tryz.func149, Tryz.ntmps149
 go_wp2_with fail
 exact bodyPost_ret (v := .tuple #[.agg #[.bool true, .bool true, .bool false, .bool false, .int .i64 3], .bool true]) (by simp [results, Tryz.results149, go_sem]) rfl ⟨rfl, (Below.refl _ _).alloc (Nat.le_refl _) _⟩
theorem rshapeOf_14 (w : World) : Calls Tryz.prog 149 #[.int .i64 14] w fun e w' => e = .returned (.tuple #[.agg #[.bool false, .bool false, .bool true, .bool true, .int .i64 0], .bool true]) ∧ Below w.heap.size w w' := by
 go_enter Tryz.func149, Tryz.ntmps149
 go_wp2_with fail
 exact bodyPost_ret (v := .tuple #[.agg #[.bool false, .bool false, .bool true, .bool true, .int .i64 0], .bool true]) (by simp [results, Tryz.results149, go_sem]) rfl ⟨rfl, (Below.refl _ _).alloc (Nat.le_refl _) _⟩
theorem rshapeOf_15 (w : World) : Calls Tryz.prog 149 #[.int .i64 15] w fun e w' => e = .returned (.tuple #[.agg #[.bool false, .bool false, .bool false, .bool false, .int .i64 3], .bool true]) ∧ Below w.heap.size w w' := by
 go_enter Tryz.func149, Tryz.ntmps149
 go_wp2_with fail
 exact bodyPost_ret (v := .tuple #[.agg #[.bool false, .bool false, .bool false, .bool false, .int .i64 3], .bool true]) (by simp [results, Tryz.results149, go_sem]) rfl ⟨rfl, (Below.refl _ _).alloc (Nat.le_refl _) _⟩
theorem rshapeOf_no (k : Int) (w : World) (h : shapeK k = none) : Calls Tryz.prog 149 #[.int .i64 k] w fun e w' => e = .returned (.tuple #[.agg #[.bool false, .bool false, .bool false, .bool false, .int .i64 0], .bool false]) ∧ Below w.heap.size w w' := by
 obtain ⟨e1, e2, e3, e4, e5, e6, e7, e8, e9, e10, e11, e12, e13, e14, e15⟩ := shapeK_none h
 clear h
 go_enter Tryz.func149, Tryz.ntmps149
 go_wp2_with fail
 exact bodyPost_ret (v := .tuple #[.agg #[.bool false, .bool false, .bool false, .bool false, .int .i64 0], .bool false]) (by simp [results, Tryz.results149, go_sem]) rfl ⟨rfl, (Below.refl _ _).alloc (Nat.le_refl _) _⟩
theorem rshapeOf_yes (k : Int) (nn nu ns : Nat) (w : World) (h : shapeK k = some (nn, nu, ns)) : Calls Tryz.prog 149 #[.int .i64 k] w fun e w' => e = .returned (.tuple #[.agg #[.bool (decide (1 ≤ nn)), .bool (decide (2 ≤ nn)), .bool (decide (1 ≤ nu)), .bool (decide (2 ≤ nu)), .int .i64 ns], .bool true]) ∧ Below w.heap.size w w' := by
 rcases shapeK_cases h with ⟨rfl, e⟩ | ⟨rfl, e⟩ | ⟨rfl, e⟩ | ⟨rfl, e⟩ | ⟨rfl, e⟩ | ⟨rfl, e⟩ | ⟨rfl, e⟩ | ⟨rfl, e⟩ | ⟨rfl, e⟩ | ⟨rfl, e⟩ | ⟨rfl, e⟩ | ⟨rfl, e⟩ | ⟨rfl, e⟩ | ⟨rfl, e⟩ | ⟨rfl, e⟩
 ·cases e; exact rshapeOf_1 w
 ·cases e; exact rshapeOf_2 w
 ·cases e; exact rshapeOf_3 w
 ·cases e; exact rshapeOf_4 w
 ·cases e; exact rshapeOf_5 w
 ·cases e; exact rshapeOf_6 w
 ·cases e; exact rshapeOf_7 w
 ·cases e; exact rshapeOf_8 w
 ·cases e; exact rshapeOf_9 w
 ·cases e; exact rshapeOf_10 w
 ·cases e; exact rshapeOf_11 w
 ·cases e; exact rshapeOf_12 w
 ·cases e; exact rshapeOf_13 w
 ·cases e; exact rshapeOf_14 w
 ·cases e; exact rshapeOf_15 w
theorem sshapeOf_1 (w : World) : Calls Tryz.prog 143 #[.int .i64 1] w fun e w' => e = .returned (.tuple #[.agg #[.int .i64 0, .int .i64 1, .int .i64 0], .bool true]) ∧ Below w.heap.size w w' := by
 go_enter Tryz.func143, Tryz.ntmps143
 go_wp2_with fail
 exact bodyPost_ret (v := .tuple #[.agg #[.int .i64 0, .int .i64 1, .int .i64 0], .bool true]) (by simp [results, Tryz.results143, go_sem]) rfl ⟨rfl, (Below.refl _ _).alloc (Nat.le_refl _) _⟩
theorem sshapeOf_2 (w : World) : Calls Tryz.prog 143 #[.int .i64 2] w fun e w' => e = .returned (.tuple #[.agg #[.int .i64 0, .int .i64 1, .int .i64 0], .bool true]) ∧ Below w.heap.size w w' := by
 go_enter Tryz.func143, Tryz.ntmps143
 go_wp2_with fail
 exact bodyPost_ret (v := .tuple #[.agg #[.int .i64 0, .int .i64 1, .int .i64 0], .bool true]) (by simp [results, Tryz.results143, go_sem]) rfl ⟨rfl, (Below.refl _ _).alloc (Nat.le_refl _) _⟩
theorem sshapeOf_3 (w : World) : Calls Tryz.prog 143 #[.int .i64 3] w fun e w' => e = .returned (.tuple #[.agg #[.int .i64 1, .int .i64 0, .int .i64 0], .bool true]) ∧ Below w.heap.size w w' := by
 go_enter Tryz.func143, Tryz.ntmps143
 go_wp2_with fail
 exact bodyPost_ret (v := .tuple #[.agg #[.int .i64 1, .int .i64 0, .int .i64 0], .bool true]) (by simp [results, Tryz.results143, go_sem]) rfl ⟨rfl, (Below.refl _ _).alloc (Nat.le_refl _) _⟩
theorem sshapeOf_4 (w : World) : Calls Tryz.prog 143 #[.int .i64 4] w fun e w' => e = .returned (.tuple #[.agg #[.int .i64 2, .int .i64 0, .int .i64 0], .bool true]) ∧ Below w.heap.size w w' := by
 go_enter Tryz.func143, Tryz.ntmps143
 go_wp2_with fail
 exact bodyPost_ret (v := .tuple #[.agg #[.int .i64 2, .int .i64 0, .int .i64 0], .bool true]) (by simp [results, Tryz.results143, go_sem]) rfl ⟨rfl, (Below.refl _ _).alloc (Nat.le_refl _) _⟩
theorem sshapeOf_5 (w : World) : Calls Tryz.prog 143 #[.int .i64 5] w fun e w' => e = .returned (.tuple #[.agg #[.int .i64 1, .int .i64 1, .int .i64 0], .bool true]) ∧ Below w.heap.size w w' := by
 go_enter Tryz.func143, Tryz.ntmps143
 go_wp2_with fail
 exact bodyPost_ret (v := .tuple #[.agg #[.int .i64 1, .int .i64 1, .int .i64 0], .bool true]) (by simp [results, Tryz.results143, go_sem]) rfl ⟨rfl, (Below.refl _ _).alloc (Nat.le_refl _) _⟩
theorem sshapeOf_6 (w : World) : Calls Tryz.prog 143 #[.int .i64 6] w fun e w' => e = .returned (.tuple #[.agg #[.int .i64 1, .int .i64 0, .int .i64 1], .bool true]) ∧ Below w.heap.size w w' := by
 go_enter Tryz.func143, Tryz.ntmps143
 go_wp2_with fail
 exact bodyPost_ret (v := .tuple #[.agg #[.int .i64 1, .int .i64 0, .int .i64 1], .bool true]) (by simp [results, Tryz.results143, go_sem]) rfl ⟨rfl, (Below.refl _ _).alloc (Nat.le_refl _) _⟩
theorem sshapeOf_7 (w : World) : Calls Tryz.prog 143 #[.int .i64 7] w fun e w' => e = .returned (.tuple #[.agg #[.int .i64 0, .int .i64 0, .int .i64 2], .bool true]) ∧ Below w.heap.size w w' := by
 go_enter Tryz.func143, Tryz.ntmps143
 go_wp2_with fail
 exact bodyPost_ret (v := .tuple #[.agg #[.int .i64 0, .int .i64 0, .int .i64 2], .bool true]) (by simp [results, Tryz.results143, go_sem]) rfl ⟨rfl, (Below.refl _ _).alloc (Nat.le_refl _) _⟩
theorem sshapeOf_8 (w : World) : Calls Tryz.prog 143 #[.int .i64 8] w fun e w' => e = .returned (.tuple #[.agg #[.int .i64 1, .int .i64 0, .int .i64 2], .bool true]) ∧ Below w.heap.size w w' := by
 go_enter Tryz.func143, Tryz.ntmps143
 go_wp2_with fail
 exact bodyPost_ret (v := .tuple #[.agg #[.int .i64 1, .int .i64 0, .int .i64 2], .bool true]) (by simp [results, Tryz.results143, go_sem]) rfl ⟨rfl, (Below.refl _ _).alloc (Nat.le_refl _) _⟩
theorem sshapeOf_9 (w : World) : Calls Tryz.prog 143 #[.int .i64 9] w fun e w' => e = .returned (.tuple #[.agg #[.int .i64 0, .int .i64 0, .int .i64 3], .bool true]) ∧ Below w.heap.size w w' := by
 go_enter Tryz.func143, Tryz.ntmps143
 go_wp2_with fail
 exact bodyPost_ret (v := .tuple #[.agg #[.int .i64 0, .int .i64 0, .int .i64 3], .bool true]) (by simp [results, Tryz.results143, go_sem]) rfl ⟨rfl, (Below.refl _ _).alloc (Nat.le_refl _) _⟩
theorem sshapeOf_10 (w : World) : Calls Tryz.prog 143 #[.int .i64 10] w fun e w' => e = .returned (.tuple #[.agg #[.int .i64 1, .int .i64 0, .int .i64 2], .bool true]) ∧ Below w.heap.size w w' := by
 go_enter Tryz.func143, Tryz.ntmps143
 go_wp2_with fail
 exact bodyPost_ret (v := .tuple #[.agg #[.int .i64 1, .int .i64 0, .int .i64 2], .bool true]) (by simp [results, Tryz.results143, go_sem]) rfl ⟨rfl, (Below.refl _ _).alloc (Nat.le_refl _) _⟩
theorem sshapeOf_11 (w : World) : Calls Tryz.prog 143 #[.int .i64 11] w fun e w' => e = .returned (.tuple #[.agg #[.int .i64 0, .int .i64 0, .int .i64 0], .bool true]) ∧ Below w.heap.size w w' := by
 go_enter Tryz.func143, Tryz.ntmps143
 go_wp2_with fail
 exact bodyPost_ret (v := .tuple #[.agg #[.int .i64 0, .int .i64 0, .int .i64 0], .bool true]) (by simp [results, Tryz.results143, go_sem]) rfl ⟨rfl, (Below.refl _ _).alloc (Nat.le_refl _) _⟩
theorem sshapeOf_12 (w : World) : Calls Tryz.prog 143 #[.int .i64 12] w fun e w' => e = .returned (.tuple #[.agg #[.int .i64 0, .int .i64 0, .int .i64 2], .bool true]) ∧ Below w.heap.size w w' := by
 go_enter Tryz.func143, Tryz.ntmps143
 go_wp2_with fail
 exact bodyPost_ret (v := .tuple #[.agg #[.int .i64 0, .int .i64 0, .int .i64 2], .bool true]) (by simp [results, Tryz.results143, go_sem]) rfl ⟨rfl, (Below.refl _ _).alloc (Nat.le_refl _) _⟩
theorem sshapeOf_13 (w : World) : Calls Tryz.prog 143 #[.int .i64 13] w fun e w' => e = .returned (.tuple #[.agg #[.int .i64 2, .int .i64 0, .int .i64 3], .bool true]) ∧ Below w.heap.size w w' := by
 go_enter Tryz.func143, Tryz.ntmps143
 go_wp2_with fail
 exact bodyPost_ret (v := .tuple #[.agg #[.int .i64 2, .int .i64 0, .int .i64 3], .bool true]) (by simp [results, Tryz.results143, go_sem]) rfl ⟨rfl, (Below.refl _ _).alloc (Nat.le_refl _) _⟩
theorem sshapeOf_14 (w : World) : Calls Tryz.prog 143 #[.int .i64 14] w fun e w' => e = .returned (.tuple #[.agg #[.int .i64 0, .int .i64 2, .int .i64 0], .bool true]) ∧ Below w.heap.size w w' := by
 go_enter Tryz.func143, Tryz.ntmps143
 go_wp2_with fail
 exact bodyPost_ret (v := .tuple #[.agg #[.int .i64 0, .int .i64 2, .int .i64 0], .bool true]) (by simp [results, Tryz.results143, go_sem]) rfl ⟨rfl, (Below.refl _ _).alloc (Nat.le_refl _) _⟩
theorem sshapeOf_15 (w : World) : Calls Tryz.prog 143 #[.int .i64 15] w fun e w' => e = .returned (.tuple #[.agg #[.int .i64 0, .int .i64 0, .int .i64 3], .bool true]) ∧ Below w.heap.size w w' := by
 go_enter Tryz.func143, Tryz.ntmps143
 go_wp2_with fail
 exact bodyPost_ret (v := .tuple #[.agg #[.int .i64 0, .int .i64 0, .int .i64 3], .bool true]) (by simp [results, Tryz.results143, go_sem]) rfl ⟨rfl, (Below.refl _ _).alloc (Nat.le_refl _) _⟩
theorem sshapeOf_no (k : Int) (w : World) (h : shapeK k = none) : Calls Tryz.prog 143 #[.int .i64 k] w fun e w' => e = .returned (.tuple #[.agg #[.int .i64 0, .int .i64 0, .int .i64 0], .bool false]) ∧ Below w.heap.size w w' := by
 obtain ⟨e1, e2, e3, e4, e5, e6, e7, e8, e9, e10, e11, e12, e13, e14, e15⟩ := shapeK_none h
 clear h
 go_enter Tryz.func143, Tryz.ntmps143
 go_wp2_with fail
 exact bodyPost_ret (v := .tuple #[.agg #[.int .i64 0, .int .i64 0, .int .i64 0], .bool false]) (by simp [results, Tryz.results143, go_sem]) rfl ⟨rfl, (Below.refl _ _).alloc (Nat.le_refl _) _⟩
theorem sshapeOf_yes (k : Int) (nn nu ns : Nat) (w : World) (h : shapeK k = some (nn, nu, ns)) : Calls Tryz.prog 143 #[.int .i64 k] w fun e w' => e = .returned (.tuple #[.agg #[.int .i64 nn, .int .i64 nu, .int .i64 ns], .bool true]) ∧ Below w.heap.size w w' := by
 rcases shapeK_cases h with ⟨rfl, e⟩ | ⟨rfl, e⟩ | ⟨rfl, e⟩ | ⟨rfl, e⟩ | ⟨rfl, e⟩ | ⟨rfl, e⟩ | ⟨rfl, e⟩ | ⟨rfl, e⟩ | ⟨rfl, e⟩ | ⟨rfl, e⟩ | ⟨rfl, e⟩ | ⟨rfl, e⟩ | ⟨rfl, e⟩ | ⟨rfl, e⟩ | ⟨rfl, e⟩
 ·cases e; exact sshapeOf_1 w
 ·cases e; exact sshapeOf_2 w
 ·cases e; exact sshapeOf_3 w
 ·cases e; exact sshapeOf_4 w
 ·cases e; exact sshapeOf_5 w
 ·cases e; exact sshapeOf_6 w
 ·cases e; exact sshapeOf_7 w
 ·cases e; exact sshapeOf_8 w
 ·cases e; exact sshapeOf_9 w
 ·cases e; exact sshapeOf_10 w
 ·cases e; exact sshapeOf_11 w
 ·cases e; exact sshapeOf_12 w
 ·cases e; exact sshapeOf_13 w
 ·cases e; exact sshapeOf_14 w
 ·cases e; exact sshapeOf_15 w
end
section
open Go.RowKit
def rangedB (k it d : Int) : Bool :=
 if k = 1 then decide (-999999999 ≤ it) && decide (it ≤ 999999999) else
 if k = 2 then decide (it = 0) || decide (it = 1) else
 if k = 5 then decide (1 ≤ it) && decide (it ≤ 999999) else
 if k = 14 then decide (1 ≤ d) && decide (d ≤ 999999) && decide (0 ≤ it) && decide (it ≤ d) else true
set_option maxHeartbeats 1000000 in
theorem rranged_any (k : Int) (nm mr : ByteArray) (it d : Int) (sv : Value) (w : World) :
  Calls Tryz.prog 151 #[.agg #[.int .i64 k, .string nm, .string mr, .int .i64 it, .int .i64 d, sv]] w fun e w' => e = .returned (.bool (rangedB k it d)) ∧ Below w.heap.size w w' := by
 by_cases h1 : k = 1
 ·subst h1
  go_enter Tryz.func151, Tryz.ntmps151
  go_wp2_with fail
  all_goals
   go_ret
   exact ⟨ret_boolE (by first | (rw [Bool.eq_iff_iff]; simp [rangedB]; done) | (rw [Bool.eq_iff_iff]; simp [rangedB]; omega)), (Below.refl _ _).alloc (Nat.le_refl _) _⟩
 by_cases h2 : k = 2
 ·subst h2
  clear h1
  go_enter Tryz.func151, Tryz.ntmps151
  go_wp2_with fail
  all_goals
   go_ret
   exact ⟨ret_boolE (by first | (rw [Bool.eq_iff_iff]; simp [rangedB]; done) | (rw [Bool.eq_iff_iff]; simp [rangedB]; omega)), (Below.refl _ _).alloc (Nat.le_refl _) _⟩
 by_cases h3 : k = 5
 ·subst h3
  clear h1 h2
  go_enter Tryz.func151, Tryz.ntmps151
  go_wp2_with fail
  all_goals
   go_ret
   exact ⟨ret_boolE (by first | (rw [Bool.eq_iff_iff]; simp [rangedB]; done) | (rw [Bool.eq_iff_iff]; simp [rangedB]; omega)), (Below.refl _ _).alloc (Nat.le_refl _) _⟩
 by_cases h4 : k = 14
 ·subst h4
  clear h1 h2 h3
  go_enter Tryz.func151, Tryz.ntmps151
  go_wp2_with fail
  all_goals
   go_ret
   exact ⟨ret_boolE (by first | (rw [Bool.eq_iff_iff]; simp [rangedB]; done) | (rw [Bool.eq_iff_iff]; simp [rangedB]; omega)), (Below.refl _ _).alloc (Nat.le_refl _) _⟩
 have HE : Hid (rangedB k it d = true) := Lib.hid (by simp [rangedB, h1, h2, h3, h4])
 have f1 : (k == 1) = false := by simpa using h1
 have f2 : (k == 2) = false := by simpa using h2
 have f3 : (k == 5) = false := by simpa using h3
 have f4 : (k == 14) = false := by simpa using h4
 clear h1 h2 h3 h4
 go_enter Tryz.func151, Tryz.ntmps151
 go_wp2_with fail
 go_ret
 exact ⟨by rw [HE.out]; rfl, (Below.refl _ _).alloc (Nat.le_refl _) _⟩
end
section
section
open Go.RowKit
theorem ret_intE {k : IntKind} {a b : Int} (h : a = b) : Ending.returned (.int k a) = .returned (.int k b) := by rw [h]
def opNames : List ByteArray := [⟨#[43]⟩, ⟨#[45]⟩, ⟨#[42]⟩, ⟨#[61]⟩, ⟨#[60]⟩]
def okName (k : Int) (nm : ByteArray) (b0 : Bool) : Bool :=
 if k = 5 then decide (nm.size = 0) || labelL nm.data.toList else if k = 10 then hasB opNames nm else !b0 || nameB nm
def namedB (k : Int) (nm mr : ByteArray) (b0 b1 : Bool) : Bool := (!b1 || nameB mr) && okName k nm b0
def rangeErr (k it d : Int) : Int := if rangedB k it d then 0 else 2
theorem size_zero {s : ByteArray} (h : s.size = 0) : s = ⟨#[]⟩ := by
 apply ByteArray.ext; apply Array.eq_empty_of_size_eq_zero; exact h
theorem toList_ne' {s : ByteArray} (h : ¬ s.size = 0) : s.toList.isEmpty = false := by
 rw [List.isEmpty_eq_false_iff, ByteArray.toList_eq]; intro e; apply h
 have : s.data.toList.length = 0 := by rw [e]; rfl
 simpa using this
set_option maxHeartbeats 1000000 in
theorem scheckNumbers_any (k : Int) (nm mr : ByteArray) (it d : Int) (sv : Value) (w : World) :
  Calls Tryz.prog 145 #[.agg #[.int .i64 k, .string nm, .string mr, .int .i64 it, .int .i64 d, sv]] w fun e w' => e = .returned (.int .i64 (rangeErr k it d)) ∧ Below w.heap.size w w' := by
 by_cases h1 : k = 1
 ·subst h1
  skip
  go_enter Tryz.func145, Tryz.ntmps145
  go_wp2_with fail
  all_goals
   go_ret
   refine ⟨?_, (Below.refl _ _).alloc (Nat.le_refl _) _⟩
   first
    | (refine ret_intE (a := 0) ?_; unfold rangeErr; rw [if_pos]; (go_light; (first | (simp_all [rangedB]; done) | (simp_all [rangedB]; omega))))
    | (refine ret_intE (a := 2) ?_; unfold rangeErr; rw [if_neg]; (go_light; (first | (simp_all [rangedB]; done) | (simp_all [rangedB]; omega))))
 by_cases h2 : k = 2
 ·subst h2
  clear h1
  go_enter Tryz.func145, Tryz.ntmps145
  go_wp2_with fail
  all_goals
   go_ret
   refine ⟨?_, (Below.refl _ _).alloc (Nat.le_refl _) _⟩
   first
    | (refine ret_intE (a := 0) ?_; unfold rangeErr; rw [if_pos]; (go_light; (first | (simp_all [rangedB]; done) | (simp_all [rangedB]; omega))))
    | (refine ret_intE (a := 2) ?_; unfold rangeErr; rw [if_neg]; (go_light; (first | (simp_all [rangedB]; done) | (simp_all [rangedB]; omega))))
 by_cases h5 : k = 5
 ·subst h5
  clear h1 h2
  go_enter Tryz.func145, Tryz.ntmps145
  go_wp2_with fail
  all_goals
   go_ret
   refine ⟨?_, (Below.refl _ _).alloc (Nat.le_refl _) _⟩
   first
    | (refine ret_intE (a := 0) ?_; unfold rangeErr; rw [if_pos]; (go_light; (first | (simp_all [rangedB]; done) | (simp_all [rangedB]; omega))))
    | (refine ret_intE (a := 2) ?_; unfold rangeErr; rw [if_neg]; (go_light; (first | (simp_all [rangedB]; done) | (simp_all [rangedB]; omega))))
 by_cases h14 : k = 14
 ·subst h14
  clear h1 h2 h5
  go_enter Tryz.func145, Tryz.ntmps145
  go_wp2_with fail
  all_goals
   go_ret
   refine ⟨?_, (Below.refl _ _).alloc (Nat.le_refl _) _⟩
   first
    | (refine ret_intE (a := 0) ?_; unfold rangeErr; rw [if_pos]; (go_light; (first | (simp_all [rangedB]; done) | (simp_all [rangedB]; omega))))
    | (refine ret_intE (a := 2) ?_; unfold rangeErr; rw [if_neg]; (go_light; (first | (simp_all [rangedB]; done) | (simp_all [rangedB]; omega))))
 have HE : Hid (rangedB k it d = true) := Lib.hid (by simp [rangedB, h1, h2, h5, h14])
 have f1 : (k == 1) = false := by simpa using h1
 have f2 : (k == 2) = false := by simpa using h2
 have f3 : (k == 5) = false := by simpa using h5
 have f4 : (k == 14) = false := by simpa using h14
 clear h1 h2 h5 h14
 go_enter Tryz.func145, Tryz.ntmps145
 go_wp2_with fail
 go_ret
 exact ⟨ret_intE (a := 0) (by unfold rangeErr; rw [HE.out]; rfl), (Below.refl _ _).alloc (Nat.le_refl _) _⟩
theorem beq_lit {s : ByteArray} {l : List UInt8} (h : ¬ (⟨l.toArray⟩ : ByteArray) = s) : (s.toList == l) = false := by
 have h1 : ¬ s.toList = l := by
  rw [ByteArray.toList_eq]; rintro rfl; exact h rfl
 simpa using h1
theorem reserved_cases {s : ByteArray} (h : hasB reservedL s = true) : s = ⟨#[99, 97, 115, 101]⟩ ∨ s = ⟨#[99, 104, 97, 110, 99, 101]⟩ ∨ s = ⟨#[99, 111, 110, 102, 108, 105, 99, 116]⟩ ∨ s = ⟨#[101, 108, 115, 101]⟩ ∨ s = ⟨#[102, 97, 108, 115, 101]⟩ ∨ s = ⟨#[102, 108, 97, 107, 121]⟩ ∨ s = ⟨#[102, 117, 110]⟩ ∨ s = ⟨#[105, 102]⟩ ∨ s = ⟨#[105, 110]⟩ ∨ s = ⟨#[108, 101, 116]⟩ ∨ s = ⟨#[110, 105, 108]⟩ ∨ s = ⟨#[111, 102]⟩ ∨ s = ⟨#[112, 117, 98]⟩ ∨ s = ⟨#[116, 101, 115, 116]⟩ ∨ s = ⟨#[116, 104, 101, 110]⟩ ∨ s = ⟨#[116, 114, 117, 101]⟩ ∨ s = ⟨#[117, 115, 101]⟩ := by
 simp only [hasB, reservedL, List.any_cons, List.any_nil, Bool.or_false, Bool.or_eq_true, decide_eq_true_eq] at h
 rcases h with h | h | h | h | h | h | h | h | h | h | h | h | h | h | h | h | h <;> subst h <;> simp
theorem reserved_no {s : ByteArray} (h : hasB reservedL s = false) : (s.toList == [99, 97, 115, 101]) = false ∧ (s.toList == [99, 104, 97, 110, 99, 101]) = false ∧ (s.toList == [99, 111, 110, 102, 108, 105, 99, 116]) = false ∧ (s.toList == [101, 108, 115, 101]) = false ∧ (s.toList == [102, 97, 108, 115, 101]) = false ∧ (s.toList == [102, 108, 97, 107, 121]) = false ∧ (s.toList == [102, 117, 110]) = false ∧ (s.toList == [105, 102]) = false ∧ (s.toList == [105, 110]) = false ∧ (s.toList == [108, 101, 116]) = false ∧ (s.toList == [110, 105, 108]) = false ∧ (s.toList == [111, 102]) = false ∧ (s.toList == [112, 117, 98]) = false ∧ (s.toList == [116, 101, 115, 116]) = false ∧ (s.toList == [116, 104, 101, 110]) = false ∧ (s.toList == [116, 114, 117, 101]) = false ∧ (s.toList == [117, 115, 101]) = false := by
 simp only [hasB, reservedL, List.any_cons, List.any_nil, Bool.or_false, Bool.or_eq_false_iff, decide_eq_false_iff_not] at h
 obtain ⟨h0, h1, h2, h3, h4, h5, h6, h7, h8, h9, h10, h11, h12, h13, h14, h15, h16⟩ := h
 exact ⟨beq_lit h0, beq_lit h1, beq_lit h2, beq_lit h3, beq_lit h4, beq_lit h5, beq_lit h6, beq_lit h7, beq_lit h8, beq_lit h9, beq_lit h10, beq_lit h11, beq_lit h12, beq_lit h13, beq_lit h14, beq_lit h15, beq_lit h16⟩
set_option maxHeartbeats 1000000 in
theorem sname_any (s : ByteArray) (w : World) :
  Calls Tryz.prog 161 #[.string s] w fun e w' => e = .returned (.bool (nameB s)) ∧ Below w.heap.size w w' := by
 cases hr : hasB reservedL s
 ·obtain ⟨h0, h1, h2, h3, h4, h5, h6, h7, h8, h9, h10, h11, h12, h13, h14, h15, h16⟩ := reserved_no hr
  have HE : Hid (nameB s = wordL 24 s.data.toList) := Lib.hid (by simp [nameB, hr])
  clear hr
  go_enter Tryz.func161, Tryz.ntmps161
  go_wp2_with (first | (go_at_call 113; refine (word_any s _).mono ?_; rintro e w' ⟨rfl, hb⟩))
  go_ret
  exact ⟨by rw [HE.out]; rfl, hb⟩
 ·have HE : Hid (nameB s = false) := Lib.hid (by simp [nameB, hr])
  rcases reserved_cases hr with rfl | rfl | rfl | rfl | rfl | rfl | rfl | rfl | rfl | rfl | rfl | rfl | rfl | rfl | rfl | rfl | rfl
  all_goals
   clear hr
   go_enter Tryz.func161, Tryz.ntmps161
   go_wp2_with fail
   go_ret
   exact ⟨by rw [HE.out]; rfl, Below.refl _ _⟩
end
section
open Go.RowKit
theorem strsAt_ops (w : World) (T : TypeId) (b : Nat) (hb : b = w.heap.size) : StrsAt (w.alloc (.cells #[.string ⟨#[43]⟩, .string ⟨#[45]⟩, .string ⟨#[42]⟩, .string ⟨#[61]⟩, .string ⟨#[60]⟩] T)) (.slice (some ⟨b, 0, none⟩) 5 5) opNames := by
 subst hb; exact strsAt_new w T opNames
theorem bcellE {W w1 : World} (hb : Below W.heap.size W w1) : (∀ b o, b < W.heap.size → w1.cell? ⟨b, o, none⟩ = W.cell? ⟨b, o, none⟩) ∧ (∀ b o, b < W.heap.size → w1.frozen? ⟨b, o, none⟩ = W.frozen? ⟨b, o, none⟩) :=
 ⟨fun b o h => hb.cell (p := ⟨b, o, none⟩) h, fun b o h => hb.frozen (p := ⟨b, o, none⟩) h⟩
set_option maxHeartbeats 2000000 in
theorem rnamed_any (k : Int) (nm mr : ByteArray) (it d : Int) (sv : Value) (b0 b1 b2 b3 : Bool) (ns : Int) (w : World) :
  Calls Tryz.prog 150 #[.agg #[.int .i64 k, .string nm, .string mr, .int .i64 it, .int .i64 d, sv], .agg #[.bool b0, .bool b1, .bool b2, .bool b3, .int .i64 ns]] w fun e w' => e = .returned (.bool (namedB k nm mr b0 b1)) ∧ Below w.heap.size w w' := by
 cases b1
 ·by_cases h5 : k = 5
  ·subst h5
   by_cases hz : nm.size = 0
   ·obtain rfl := size_zero hz
    have HE : Hid (namedB 5 ⟨#[]⟩ mr b0 false = true) := Lib.hid (by simp [namedB, okName, *])
    clear hz 
    go_enter Tryz.func150, Tryz.ntmps150
    go_wp2_with fail
    go_ret
    exact ⟨by rw [HE.out]; rfl, ((Below.refl _ _).alloc (Nat.le_refl _) _).alloc (by simp) _⟩
   ·have hz1 := toList_ne' hz
    have HE : Hid (namedB 5 nm mr b0 false = labelL nm.data.toList) := Lib.hid (by simp [namedB, okName, *])
    clear hz 
    go_enter Tryz.func150, Tryz.ntmps150
    go_wp2_with (first | (go_at_call 68; refine (rLabel_any nm _).mono ?_; rintro e w2 ⟨rfl, rfl⟩))
    go_ret
    exact ⟨by rw [HE.out]; rfl, ((Below.refl _ _).alloc (Nat.le_refl _) _).alloc (by simp) _⟩
  have e5 : (k == 5) = false := by simpa using h5
  by_cases h10 : k = 10
  ·subst h10
   have HE : Hid (namedB 10 nm mr b0 false = hasB opNames nm) := Lib.hid (by simp [namedB, okName, *])
   clear h5
   go_enter Tryz.func150, Tryz.ntmps150
   go_wp2_with (first | (go_at_call 167; refine (rHas_any opNames nm _ _ (by decide) (strsAt_ops _ _ _ (by simp))).mono ?_; rintro e w2 ⟨rfl, rfl⟩))
   go_ret
   exact ⟨by rw [HE.out]; rfl, (((Below.refl _ _).alloc (Nat.le_refl _) _).alloc (by simp) _).alloc (by first | omega | (simp; done) | (simp; omega)) _⟩
  have e10 : (k == 10) = false := by simpa using h10
  cases b0
  ·have HE : Hid (namedB k nm mr false false = true) := Lib.hid (by simp [namedB, okName, *])
   clear h5 h10
   go_enter Tryz.func150, Tryz.ntmps150
   go_wp2_with fail
   go_ret
   exact ⟨by rw [HE.out]; rfl, ((Below.refl _ _).alloc (Nat.le_refl _) _).alloc (by simp) _⟩
  ·have HE : Hid (namedB k nm mr true false = nameB nm) := Lib.hid (by simp [namedB, okName, *])
   clear h5 h10
   go_enter Tryz.func150, Tryz.ntmps150
   go_wp2_with (first | (go_at_call 127; refine (rName_any nm _).mono ?_; rintro e w2 ⟨rfl, hb⟩))
   go_ret
   exact ⟨by rw [HE.out]; rfl, (((Below.refl _ _).alloc (Nat.le_refl _) _).alloc (by simp) _).trans (hb.mono (by first | omega | (simp; done) | (simp; omega)))⟩
 ·cases hm : nameB mr
  ·have HMR : Hid (∀ W : World, Calls Tryz.prog 127 #[.string mr] W fun e w' => e = .returned (.bool false) ∧ Below W.heap.size W w') := Lib.hid (fun W => by have := rName_any mr W; rw [hm] at this; exact this)
   have HE : Hid (namedB k nm mr b0 true = false) := Lib.hid (by simp [namedB, okName, *])
   clear hm
   obtain ⟨w1, hw1, hX⟩ := boxed w #[.int .i64 k, .string nm, .string mr, .int .i64 it, .int .i64 d, sv] 36
   obtain ⟨w2, hw2, hX2⟩ := boxed w1 #[.bool b0, .bool true, .bool b2, .bool b3, .int .i64 ns] 169
   have HW : Hid ((w.alloc (.cells #[.int .i64 k, .string nm, .string mr, .int .i64 it, .int .i64 d, sv] 36)).alloc (.cells #[.bool b0, .bool true, .bool b2, .bool b3, .int .i64 ns] 169) = w2) := Lib.hid (by rw [hw1, hw2])
   have HX := Lib.hid hX
   have HX2 := Lib.hid hX2
   clear hX hX2 hw1 hw2
   go_enter Tryz.func150, Tryz.ntmps150
   go_wp2_with fail
   rw [HW.out]
   refine (HMR.out _).mono ?_
   rintro e wm ⟨rfl, hbm⟩
   obtain ⟨c0, c1, c2, c3, c4, c5⟩ := boxed6 HX.out (HX2.out.below.trans (hbm.mono HX2.out.below.size))
   obtain ⟨d0, d1, d2, d3, d4⟩ := boxed5 HX2.out hbm
   rw [HX.out.next] at d0 d1 d2 d3 d4
   have hl1 : w.heap.size < wm.heap.size := by have := HX.out.size; have := HX2.out.size; have := hbm.size; omega
   have hl2 : w.heap.size + 1 < wm.heap.size := by have := HX.out.next; have := HX2.out.size; have := hbm.size; omega
   have hbw : Below w.heap.size w wm := HX.out.below.trans ((HX2.out.below.trans (hbm.mono HX2.out.below.size)).mono HX.out.below.size)
   go_wp2_with fail
   go_ret
   exact ⟨by rw [HE.out]; rfl, hbw⟩
  ·have HMR : Hid (∀ W : World, Calls Tryz.prog 127 #[.string mr] W fun e w' => e = .returned (.bool true) ∧ Below W.heap.size W w') := Lib.hid (fun W => by have := rName_any mr W; rw [hm] at this; exact this)
   by_cases h5 : k = 5
   ·subst h5
    by_cases hz : nm.size = 0
    ·obtain rfl := size_zero hz
     have HE : Hid (namedB 5 ⟨#[]⟩ mr b0 true = true) := Lib.hid (by simp [namedB, okName, *])
     clear hz hm
     obtain ⟨w1, hw1, hX⟩ := boxed w #[.int .i64 5, .string ⟨#[]⟩, .string mr, .int .i64 it, .int .i64 d, sv] 36
     obtain ⟨w2, hw2, hX2⟩ := boxed w1 #[.bool b0, .bool true, .bool b2, .bool b3, .int .i64 ns] 169
     have HW : Hid ((w.alloc (.cells #[.int .i64 5, .string ⟨#[]⟩, .string mr, .int .i64 it, .int .i64 d, sv] 36)).alloc (.cells #[.bool b0, .bool true, .bool b2, .bool b3, .int .i64 ns] 169) = w2) := Lib.hid (by rw [hw1, hw2])
     have HX := Lib.hid hX
     have HX2 := Lib.hid hX2
     clear hX hX2 hw1 hw2
     go_enter Tryz.func150, Tryz.ntmps150
     go_wp2_with fail
     rw [HW.out]
     refine (HMR.out _).mono ?_
     rintro e wm ⟨rfl, hbm⟩
     obtain ⟨c0, c1, c2, c3, c4, c5⟩ := boxed6 HX.out (HX2.out.below.trans (hbm.mono HX2.out.below.size))
     obtain ⟨d0, d1, d2, d3, d4⟩ := boxed5 HX2.out hbm
     rw [HX.out.next] at d0 d1 d2 d3 d4
     have hl1 : w.heap.size < wm.heap.size := by have := HX.out.size; have := HX2.out.size; have := hbm.size; omega
     have hl2 : w.heap.size + 1 < wm.heap.size := by have := HX.out.next; have := HX2.out.size; have := hbm.size; omega
     have hbw : Below w.heap.size w wm := HX.out.below.trans ((HX2.out.below.trans (hbm.mono HX2.out.below.size)).mono HX.out.below.size)
     go_wp2_with fail
     go_ret
     exact ⟨by rw [HE.out]; rfl, hbw⟩
    ·have hz1 := toList_ne' hz
     have HE : Hid (namedB 5 nm mr b0 true = labelL nm.data.toList) := Lib.hid (by simp [namedB, okName, *])
     clear hz hm
     obtain ⟨w1, hw1, hX⟩ := boxed w #[.int .i64 5, .string nm, .string mr, .int .i64 it, .int .i64 d, sv] 36
     obtain ⟨w2, hw2, hX2⟩ := boxed w1 #[.bool b0, .bool true, .bool b2, .bool b3, .int .i64 ns] 169
     have HW : Hid ((w.alloc (.cells #[.int .i64 5, .string nm, .string mr, .int .i64 it, .int .i64 d, sv] 36)).alloc (.cells #[.bool b0, .bool true, .bool b2, .bool b3, .int .i64 ns] 169) = w2) := Lib.hid (by rw [hw1, hw2])
     have HX := Lib.hid hX
     have HX2 := Lib.hid hX2
     clear hX hX2 hw1 hw2
     go_enter Tryz.func150, Tryz.ntmps150
     go_wp2_with fail
     rw [HW.out]
     refine (HMR.out _).mono ?_
     rintro e wm ⟨rfl, hbm⟩
     obtain ⟨c0, c1, c2, c3, c4, c5⟩ := boxed6 HX.out (HX2.out.below.trans (hbm.mono HX2.out.below.size))
     obtain ⟨d0, d1, d2, d3, d4⟩ := boxed5 HX2.out hbm
     rw [HX.out.next] at d0 d1 d2 d3 d4
     have hl1 : w.heap.size < wm.heap.size := by have := HX.out.size; have := HX2.out.size; have := hbm.size; omega
     have hl2 : w.heap.size + 1 < wm.heap.size := by have := HX.out.next; have := HX2.out.size; have := hbm.size; omega
     have hbw : Below w.heap.size w wm := HX.out.below.trans ((HX2.out.below.trans (hbm.mono HX2.out.below.size)).mono HX.out.below.size)
     go_wp2_with (first | (go_at_call 68; refine (rLabel_any nm _).mono ?_; rintro e w2 ⟨rfl, rfl⟩))
     go_ret
     exact ⟨by rw [HE.out]; rfl, hbw⟩
   have e5 : (k == 5) = false := by simpa using h5
   by_cases h10 : k = 10
   ·subst h10
    have HE : Hid (namedB 10 nm mr b0 true = hasB opNames nm) := Lib.hid (by simp [namedB, okName, *])
    clear h5 hm
    obtain ⟨w1, hw1, hX⟩ := boxed w #[.int .i64 10, .string nm, .string mr, .int .i64 it, .int .i64 d, sv] 36
    obtain ⟨w2, hw2, hX2⟩ := boxed w1 #[.bool b0, .bool true, .bool b2, .bool b3, .int .i64 ns] 169
    have HW : Hid ((w.alloc (.cells #[.int .i64 10, .string nm, .string mr, .int .i64 it, .int .i64 d, sv] 36)).alloc (.cells #[.bool b0, .bool true, .bool b2, .bool b3, .int .i64 ns] 169) = w2) := Lib.hid (by rw [hw1, hw2])
    have HX := Lib.hid hX
    have HX2 := Lib.hid hX2
    clear hX hX2 hw1 hw2
    go_enter Tryz.func150, Tryz.ntmps150
    go_wp2_with fail
    rw [HW.out]
    refine (HMR.out _).mono ?_
    rintro e wm ⟨rfl, hbm⟩
    obtain ⟨c0, c1, c2, c3, c4, c5⟩ := boxed6 HX.out (HX2.out.below.trans (hbm.mono HX2.out.below.size))
    obtain ⟨d0, d1, d2, d3, d4⟩ := boxed5 HX2.out hbm
    rw [HX.out.next] at d0 d1 d2 d3 d4
    have hl1 : w.heap.size < wm.heap.size := by have := HX.out.size; have := HX2.out.size; have := hbm.size; omega
    have hl2 : w.heap.size + 1 < wm.heap.size := by have := HX.out.next; have := HX2.out.size; have := hbm.size; omega
    have hbw : Below w.heap.size w wm := HX.out.below.trans ((HX2.out.below.trans (hbm.mono HX2.out.below.size)).mono HX.out.below.size)
    go_wp2_with (first | (go_at_call 167; refine (rHas_any opNames nm _ _ (by decide) (strsAt_ops _ _ _ (by simp))).mono ?_; rintro e w2 ⟨rfl, rfl⟩))
    go_ret
    exact ⟨by rw [HE.out]; rfl, (hbw).alloc (by first | omega | (simp; done) | (simp; omega)) _⟩
   have e10 : (k == 10) = false := by simpa using h10
   cases b0
   ·have HE : Hid (namedB k nm mr false true = true) := Lib.hid (by simp [namedB, okName, *])
    clear h5 h10 hm
    obtain ⟨w1, hw1, hX⟩ := boxed w #[.int .i64 k, .string nm, .string mr, .int .i64 it, .int .i64 d, sv] 36
    obtain ⟨w2, hw2, hX2⟩ := boxed w1 #[.bool false, .bool true, .bool b2, .bool b3, .int .i64 ns] 169
    have HW : Hid ((w.alloc (.cells #[.int .i64 k, .string nm, .string mr, .int .i64 it, .int .i64 d, sv] 36)).alloc (.cells #[.bool false, .bool true, .bool b2, .bool b3, .int .i64 ns] 169) = w2) := Lib.hid (by rw [hw1, hw2])
    have HX := Lib.hid hX
    have HX2 := Lib.hid hX2
    clear hX hX2 hw1 hw2
    go_enter Tryz.func150, Tryz.ntmps150
    go_wp2_with fail
    rw [HW.out]
    refine (HMR.out _).mono ?_
    rintro e wm ⟨rfl, hbm⟩
    obtain ⟨c0, c1, c2, c3, c4, c5⟩ := boxed6 HX.out (HX2.out.below.trans (hbm.mono HX2.out.below.size))
    obtain ⟨d0, d1, d2, d3, d4⟩ := boxed5 HX2.out hbm
    rw [HX.out.next] at d0 d1 d2 d3 d4
    have hl1 : w.heap.size < wm.heap.size := by have := HX.out.size; have := HX2.out.size; have := hbm.size; omega
    have hl2 : w.heap.size + 1 < wm.heap.size := by have := HX.out.next; have := HX2.out.size; have := hbm.size; omega
    have hbw : Below w.heap.size w wm := HX.out.below.trans ((HX2.out.below.trans (hbm.mono HX2.out.below.size)).mono HX.out.below.size)
    go_wp2_with fail
    go_ret
    exact ⟨by rw [HE.out]; rfl, hbw⟩
   ·have HE : Hid (namedB k nm mr true true = nameB nm) := Lib.hid (by simp [namedB, okName, *])
    clear h5 h10 hm
    obtain ⟨w1, hw1, hX⟩ := boxed w #[.int .i64 k, .string nm, .string mr, .int .i64 it, .int .i64 d, sv] 36
    obtain ⟨w2, hw2, hX2⟩ := boxed w1 #[.bool true, .bool true, .bool b2, .bool b3, .int .i64 ns] 169
    have HW : Hid ((w.alloc (.cells #[.int .i64 k, .string nm, .string mr, .int .i64 it, .int .i64 d, sv] 36)).alloc (.cells #[.bool true, .bool true, .bool b2, .bool b3, .int .i64 ns] 169) = w2) := Lib.hid (by rw [hw1, hw2])
    have HX := Lib.hid hX
    have HX2 := Lib.hid hX2
    clear hX hX2 hw1 hw2
    go_enter Tryz.func150, Tryz.ntmps150
    go_wp2_with fail
    rw [HW.out]
    refine (HMR.out _).mono ?_
    rintro e wm ⟨rfl, hbm⟩
    obtain ⟨c0, c1, c2, c3, c4, c5⟩ := boxed6 HX.out (HX2.out.below.trans (hbm.mono HX2.out.below.size))
    obtain ⟨d0, d1, d2, d3, d4⟩ := boxed5 HX2.out hbm
    rw [HX.out.next] at d0 d1 d2 d3 d4
    have hl1 : w.heap.size < wm.heap.size := by have := HX.out.size; have := HX2.out.size; have := hbm.size; omega
    have hl2 : w.heap.size + 1 < wm.heap.size := by have := HX.out.next; have := HX2.out.size; have := hbm.size; omega
    have hbw : Below w.heap.size w wm := HX.out.below.trans ((HX2.out.below.trans (hbm.mono HX2.out.below.size)).mono HX.out.below.size)
    go_wp2_with (first | (go_at_call 127; refine (rName_any nm _).mono ?_; rintro e w2 ⟨rfl, hb⟩))
    go_ret
    exact ⟨by rw [HE.out]; rfl, (hbw).trans (hb.mono (by first | omega | (simp; done) | (simp; omega)))⟩
end
end
end Go.Proofs.YtnnolijagpakiaaGreatDoor
