/- Has, Reserved, Name, shapeOf, ranged of the reference of layer 21. shapeOf of the reference and of syntax. ranged and named of the reference; checkNumbers, checkNames and name of syntax. -/
import Derived.Test.YtnphcjpccieljaaGreatDoorGRef
import Derived.Test.YtnphcjpccieljaaGreatDoorGExB
namespace Go.Proofs.YtnphcjpccieljaaGreatDoor
open Go.RowKit

/-- a slice of strings -/
def StrsAt (w : World) (v : Value) (l : List ByteArray) : Prop :=
  ∃ (p : Option Addr) (cap : Nat), v = .slice p l.length cap ∧ l.length ≤ cap ∧ ∀ i (h : i < l.length), ∃ b off, p = some ⟨b, off, none⟩ ∧ b < w.heap.size ∧ w.cell? ⟨b, off + i, none⟩ = some (.string l[i])
def hasB (l : List ByteArray) (s : ByteArray) : Bool := l.any fun x => decide (x = s)
theorem hasB_of {l : List ByteArray} {s : ByteArray} {j : Nat} (h : j < l.length) (he : l[j] = s) : hasB l s = true := by
  rw [hasB, List.any_eq_true]; exact ⟨l[j], List.getElem_mem h, by simpa using he⟩
theorem hasB_no {l : List ByteArray} {s : ByteArray} (h : ∀ i (hi : i < l.length), l[i] ≠ s) : hasB l s = false := by
  rw [hasB, List.any_eq_false]; intro x hx
  obtain ⟨i, hi, rfl⟩ := List.getElem_of_mem hx
  simpa using h i hi
set_option maxHeartbeats 400000 in
theorem rHas_any (l : List ByteArray) (s : ByteArray) (v : Value) (w : World) (hl : l.length ≤ 1099511627776) (hv : StrsAt w v l) :
    Calls Tryz.prog 54 #[v, .string s] w fun e w' => e = .returned (.bool (hasB l s)) ∧ w = w' := by
  obtain ⟨p, cap, rfl, hc, hk⟩ := hv
  have HK := Lib.hid hk
  clear hk
  go_enter Tryz.func54, Tryz.ntmps54
  go_wp2_with fail
  go_loop [5] (fun i => ∃ j : Nat, j ≤ l.length ∧ i = .int .i64 j ∧ Hid (∀ i (hi : i < l.length), i < j → l[i] ≠ s)) (fun i => l.length - (intOf i).toNat)
  case atStart => exact ⟨0, by omega, rfl, Lib.hid (fun i _ h => absurd h (by omega))⟩
  case round =>
    obtain ⟨j, hj, rfl, HP⟩ := hrel
    by_cases hlt : j < l.length
    · obtain ⟨b, off, rfl, _, hc⟩ := HK.out j hlt
      by_cases he : l[j] = s
      · have HF := Lib.hid (hasB_of hlt he)
        rw [he] at hc
        clear he
        go_wp2_with fail
        go_ret
        exact ⟨by rw [HF.out]; rfl, rfl⟩
      · have HE := Lib.hid he
        have f2 : (l[j].toList == s.toList) = false := (Lib.bytes_beq_false_iff _ _).2 he
        clear he
        go_wp2_with fail
        go_round
        case rel => exact ⟨j + 1, by omega, by go_num, Lib.hid (fun i hi h => by
          rcases Nat.lt_or_ge i j with h1 | h1
          · exact HP.out i hi h1
          · obtain rfl : i = j := by omega
            exact HE.out)⟩
        case measure => simp [intOf]; omega
    · have HF := Lib.hid (hasB_no (l := l) (s := s) (fun i hi => HP.out i hi (by omega)))
      go_wp2_with fail
      go_ret
      exact ⟨by rw [HF.out]; rfl, rfl⟩
def reservedL : List ByteArray := [⟨#[99, 97, 115, 101]⟩, ⟨#[99, 104, 97, 110, 99, 101]⟩, ⟨#[99, 111, 110, 102, 108, 105, 99, 116]⟩, ⟨#[101, 108, 115, 101]⟩, ⟨#[102, 97, 108, 115, 101]⟩, ⟨#[102, 108, 97, 107, 121]⟩, ⟨#[102, 117, 110]⟩, ⟨#[105, 102]⟩, ⟨#[105, 110]⟩, ⟨#[108, 101, 116]⟩, ⟨#[110, 105, 108]⟩, ⟨#[111, 102]⟩, ⟨#[112, 117, 98]⟩, ⟨#[116, 101, 115, 116]⟩, ⟨#[116, 104, 101, 110]⟩, ⟨#[116, 114, 117, 101]⟩, ⟨#[117, 115, 101]⟩]
theorem strsAt_new (w : World) (T : TypeId) (l : List ByteArray) : StrsAt (w.alloc (.cells (l.map Value.string).toArray T)) (.slice (some ⟨w.heap.size, 0, none⟩) l.length l.length) l :=
  ⟨_, _, rfl, Nat.le_refl _, fun i h => ⟨w.heap.size, 0, rfl, by simp, by simp [go_sem, h]⟩⟩
theorem rReserved_any (w : World) :
    Calls Tryz.prog 55 #[] w fun e w' => ∃ v, e = .returned v ∧ Below w.heap.size w w' ∧ StrsAt w' v reservedL := by
  go_enter Tryz.func55, Tryz.ntmps55
  go_wp2_with fail
  go_ret
  exact ⟨_, rfl, (Below.refl _ _).alloc (Nat.le_refl _) _, strsAt_new w 9 reservedL⟩
/-- a name: a word that is not reserved -/
def nameB (s : ByteArray) : Bool := wordL 24 s.data.toList && !hasB reservedL s
set_option maxHeartbeats 400000 in
theorem rName_any (s : ByteArray) (w : World) :
    Calls Tryz.prog 21 #[.string s] w fun e w' => e = .returned (.bool (nameB s)) ∧ Below w.heap.size w w' := by
  cases hw : wordL 24 s.data.toList
  · have HR := Lib.hid (rWord_any s w)
    rw [hw] at HR
    have HE : Hid (nameB s = false) := Lib.hid (by simp [nameB, hw])
    clear hw
    go_enter Tryz.func21, Tryz.ntmps21
    go_wp2_with (go_at_call 53; refine (HR.out).mono ?_; rintro e w' ⟨rfl, rfl⟩)
    go_ret
    exact ⟨by rw [HE.out]; rfl, Below.refl _ _⟩
  · have HR := Lib.hid (rWord_any s w)
    rw [hw] at HR
    have HE : Hid (nameB s = !hasB reservedL s) := Lib.hid (by simp [nameB, hw])
    clear hw
    go_enter Tryz.func21, Tryz.ntmps21
    go_wp2_with (first
      | (go_at_call 53; refine (HR.out).mono ?_; rintro e w' ⟨rfl, rfl⟩)
      | (go_at_call 55; refine (rReserved_any _).mono ?_; rintro e w1 ⟨v, rfl, hb, hst⟩)
      | (go_at_call 54; refine (rHas_any reservedL s v _ (by decide) hst).mono ?_; rintro e w' ⟨rfl, rfl⟩))
    go_ret
    exact ⟨by rw [HE.out]; rfl, hb⟩
end Go.Proofs.YtnphcjpccieljaaGreatDoor

namespace Go.Proofs.YtnphcjpccieljaaGreatDoor
open Go.RowKit

/-- the shape of a kind: how many names, numbers, parts -/
def shapeK (k : Int) : Option (Nat × Nat × Nat) :=
  if k = 1 then some (0, 1, 0) else
  if k = 2 then some (0, 1, 0) else
  if k = 3 then some (1, 0, 0) else
  if k = 4 then some (2, 0, 0) else
  if k = 5 then some (1, 1, 0) else
  if k = 6 then some (1, 0, 1) else
  if k = 7 then some (0, 0, 2) else
  if k = 8 then some (1, 0, 2) else
  if k = 9 then some (0, 0, 3) else
  if k = 10 then some (1, 0, 2) else
  if k = 11 then some (0, 0, 0) else
  if k = 12 then some (0, 0, 2) else
  if k = 13 then some (2, 0, 3) else
  if k = 14 then some (0, 2, 0) else
  if k = 15 then some (0, 0, 3) else
  none
theorem shapeK_cases {k : Int} {s : Nat × Nat × Nat} (h : shapeK k = some s) : (k = 1 ∧ s = (0, 1, 0)) ∨ (k = 2 ∧ s = (0, 1, 0)) ∨ (k = 3 ∧ s = (1, 0, 0)) ∨ (k = 4 ∧ s = (2, 0, 0)) ∨ (k = 5 ∧ s = (1, 1, 0)) ∨ (k = 6 ∧ s = (1, 0, 1)) ∨ (k = 7 ∧ s = (0, 0, 2)) ∨ (k = 8 ∧ s = (1, 0, 2)) ∨ (k = 9 ∧ s = (0, 0, 3)) ∨ (k = 10 ∧ s = (1, 0, 2)) ∨ (k = 11 ∧ s = (0, 0, 0)) ∨ (k = 12 ∧ s = (0, 0, 2)) ∨ (k = 13 ∧ s = (2, 0, 3)) ∨ (k = 14 ∧ s = (0, 2, 0)) ∨ (k = 15 ∧ s = (0, 0, 3)) := by
  unfold shapeK at h
  by_cases e1 : k = 1
  · rw [if_pos e1] at h; exact .inl ⟨e1, (Option.some.inj h).symm⟩
  rw [if_neg e1] at h
  by_cases e2 : k = 2
  · rw [if_pos e2] at h; exact .inr (.inl ⟨e2, (Option.some.inj h).symm⟩)
  rw [if_neg e2] at h
  by_cases e3 : k = 3
  · rw [if_pos e3] at h; exact .inr (.inr (.inl ⟨e3, (Option.some.inj h).symm⟩))
  rw [if_neg e3] at h
  by_cases e4 : k = 4
  · rw [if_pos e4] at h; exact .inr (.inr (.inr (.inl ⟨e4, (Option.some.inj h).symm⟩)))
  rw [if_neg e4] at h
  by_cases e5 : k = 5
  · rw [if_pos e5] at h; exact .inr (.inr (.inr (.inr (.inl ⟨e5, (Option.some.inj h).symm⟩))))
  rw [if_neg e5] at h
  by_cases e6 : k = 6
  · rw [if_pos e6] at h; exact .inr (.inr (.inr (.inr (.inr (.inl ⟨e6, (Option.some.inj h).symm⟩)))))
  rw [if_neg e6] at h
  by_cases e7 : k = 7
  · rw [if_pos e7] at h; exact .inr (.inr (.inr (.inr (.inr (.inr (.inl ⟨e7, (Option.some.inj h).symm⟩))))))
  rw [if_neg e7] at h
  by_cases e8 : k = 8
  · rw [if_pos e8] at h; exact .inr (.inr (.inr (.inr (.inr (.inr (.inr (.inl ⟨e8, (Option.some.inj h).symm⟩)))))))
  rw [if_neg e8] at h
  by_cases e9 : k = 9
  · rw [if_pos e9] at h; exact .inr (.inr (.inr (.inr (.inr (.inr (.inr (.inr (.inl ⟨e9, (Option.some.inj h).symm⟩))))))))
  rw [if_neg e9] at h
  by_cases e10 : k = 10
  · rw [if_pos e10] at h; exact .inr (.inr (.inr (.inr (.inr (.inr (.inr (.inr (.inr (.inl ⟨e10, (Option.some.inj h).symm⟩)))))))))
  rw [if_neg e10] at h
  by_cases e11 : k = 11
  · rw [if_pos e11] at h; exact .inr (.inr (.inr (.inr (.inr (.inr (.inr (.inr (.inr (.inr (.inl ⟨e11, (Option.some.inj h).symm⟩))))))))))
  rw [if_neg e11] at h
  by_cases e12 : k = 12
  · rw [if_pos e12] at h; exact .inr (.inr (.inr (.inr (.inr (.inr (.inr (.inr (.inr (.inr (.inr (.inl ⟨e12, (Option.some.inj h).symm⟩)))))))))))
  rw [if_neg e12] at h
  by_cases e13 : k = 13
  · rw [if_pos e13] at h; exact .inr (.inr (.inr (.inr (.inr (.inr (.inr (.inr (.inr (.inr (.inr (.inr (.inl ⟨e13, (Option.some.inj h).symm⟩))))))))))))
  rw [if_neg e13] at h
  by_cases e14 : k = 14
  · rw [if_pos e14] at h; exact .inr (.inr (.inr (.inr (.inr (.inr (.inr (.inr (.inr (.inr (.inr (.inr (.inr (.inl ⟨e14, (Option.some.inj h).symm⟩)))))))))))))
  rw [if_neg e14] at h
  by_cases e15 : k = 15
  · rw [if_pos e15] at h; exact .inr (.inr (.inr (.inr (.inr (.inr (.inr (.inr (.inr (.inr (.inr (.inr (.inr (.inr (⟨e15, (Option.some.inj h).symm⟩))))))))))))))
  rw [if_neg e15] at h
  cases h
theorem shapeK_none {k : Int} (h : shapeK k = none) : (k == 1) = false ∧ (k == 2) = false ∧ (k == 3) = false ∧ (k == 4) = false ∧ (k == 5) = false ∧ (k == 6) = false ∧ (k == 7) = false ∧ (k == 8) = false ∧ (k == 9) = false ∧ (k == 10) = false ∧ (k == 11) = false ∧ (k == 12) = false ∧ (k == 13) = false ∧ (k == 14) = false ∧ (k == 15) = false := by
  unfold shapeK at h
  by_cases e1 : k = 1
  · rw [if_pos e1] at h; cases h
  rw [if_neg e1] at h
  by_cases e2 : k = 2
  · rw [if_pos e2] at h; cases h
  rw [if_neg e2] at h
  by_cases e3 : k = 3
  · rw [if_pos e3] at h; cases h
  rw [if_neg e3] at h
  by_cases e4 : k = 4
  · rw [if_pos e4] at h; cases h
  rw [if_neg e4] at h
  by_cases e5 : k = 5
  · rw [if_pos e5] at h; cases h
  rw [if_neg e5] at h
  by_cases e6 : k = 6
  · rw [if_pos e6] at h; cases h
  rw [if_neg e6] at h
  by_cases e7 : k = 7
  · rw [if_pos e7] at h; cases h
  rw [if_neg e7] at h
  by_cases e8 : k = 8
  · rw [if_pos e8] at h; cases h
  rw [if_neg e8] at h
  by_cases e9 : k = 9
  · rw [if_pos e9] at h; cases h
  rw [if_neg e9] at h
  by_cases e10 : k = 10
  · rw [if_pos e10] at h; cases h
  rw [if_neg e10] at h
  by_cases e11 : k = 11
  · rw [if_pos e11] at h; cases h
  rw [if_neg e11] at h
  by_cases e12 : k = 12
  · rw [if_pos e12] at h; cases h
  rw [if_neg e12] at h
  by_cases e13 : k = 13
  · rw [if_pos e13] at h; cases h
  rw [if_neg e13] at h
  by_cases e14 : k = 14
  · rw [if_pos e14] at h; cases h
  rw [if_neg e14] at h
  by_cases e15 : k = 15
  · rw [if_pos e15] at h; cases h
  rw [if_neg e15] at h
  exact ⟨by simpa using e1, by simpa using e2, by simpa using e3, by simpa using e4, by simpa using e5, by simpa using e6, by simpa using e7, by simpa using e8, by simpa using e9, by simpa using e10, by simpa using e11, by simpa using e12, by simpa using e13, by simpa using e14, by simpa using e15⟩
theorem rshapeOf_1 (w : World) : Calls Tryz.prog 98 #[.int .i64 1] w fun e w' => e = .returned (.tuple #[.agg #[.bool false, .bool false, .bool true, .bool false, .int .i64 0], .bool true]) ∧ Below w.heap.size w w' := by
  go_enter Tryz.func98, Tryz.ntmps98
  go_wp2_with fail
  exact bodyPost_ret (v := .tuple #[.agg #[.bool false, .bool false, .bool true, .bool false, .int .i64 0], .bool true]) (by simp [results, Tryz.results98, go_sem]) rfl ⟨rfl, (Below.refl _ _).alloc (Nat.le_refl _) _⟩
theorem rshapeOf_2 (w : World) : Calls Tryz.prog 98 #[.int .i64 2] w fun e w' => e = .returned (.tuple #[.agg #[.bool false, .bool false, .bool true, .bool false, .int .i64 0], .bool true]) ∧ Below w.heap.size w w' := by
  go_enter Tryz.func98, Tryz.ntmps98
  go_wp2_with fail
  exact bodyPost_ret (v := .tuple #[.agg #[.bool false, .bool false, .bool true, .bool false, .int .i64 0], .bool true]) (by simp [results, Tryz.results98, go_sem]) rfl ⟨rfl, (Below.refl _ _).alloc (Nat.le_refl _) _⟩
theorem rshapeOf_3 (w : World) : Calls Tryz.prog 98 #[.int .i64 3] w fun e w' => e = .returned (.tuple #[.agg #[.bool true, .bool false, .bool false, .bool false, .int .i64 0], .bool true]) ∧ Below w.heap.size w w' := by
  go_enter Tryz.func98, Tryz.ntmps98
  go_wp2_with fail
  exact bodyPost_ret (v := .tuple #[.agg #[.bool true, .bool false, .bool false, .bool false, .int .i64 0], .bool true]) (by simp [results, Tryz.results98, go_sem]) rfl ⟨rfl, (Below.refl _ _).alloc (Nat.le_refl _) _⟩
theorem rshapeOf_4 (w : World) : Calls Tryz.prog 98 #[.int .i64 4] w fun e w' => e = .returned (.tuple #[.agg #[.bool true, .bool true, .bool false, .bool false, .int .i64 0], .bool true]) ∧ Below w.heap.size w w' := by
  go_enter Tryz.func98, Tryz.ntmps98
  go_wp2_with fail
  exact bodyPost_ret (v := .tuple #[.agg #[.bool true, .bool true, .bool false, .bool false, .int .i64 0], .bool true]) (by simp [results, Tryz.results98, go_sem]) rfl ⟨rfl, (Below.refl _ _).alloc (Nat.le_refl _) _⟩
theorem rshapeOf_5 (w : World) : Calls Tryz.prog 98 #[.int .i64 5] w fun e w' => e = .returned (.tuple #[.agg #[.bool true, .bool false, .bool true, .bool false, .int .i64 0], .bool true]) ∧ Below w.heap.size w w' := by
  go_enter Tryz.func98, Tryz.ntmps98
  go_wp2_with fail
  exact bodyPost_ret (v := .tuple #[.agg #[.bool true, .bool false, .bool true, .bool false, .int .i64 0], .bool true]) (by simp [results, Tryz.results98, go_sem]) rfl ⟨rfl, (Below.refl _ _).alloc (Nat.le_refl _) _⟩
theorem rshapeOf_6 (w : World) : Calls Tryz.prog 98 #[.int .i64 6] w fun e w' => e = .returned (.tuple #[.agg #[.bool true, .bool false, .bool false, .bool false, .int .i64 1], .bool true]) ∧ Below w.heap.size w w' := by
  go_enter Tryz.func98, Tryz.ntmps98
  go_wp2_with fail
  exact bodyPost_ret (v := .tuple #[.agg #[.bool true, .bool false, .bool false, .bool false, .int .i64 1], .bool true]) (by simp [results, Tryz.results98, go_sem]) rfl ⟨rfl, (Below.refl _ _).alloc (Nat.le_refl _) _⟩
theorem rshapeOf_7 (w : World) : Calls Tryz.prog 98 #[.int .i64 7] w fun e w' => e = .returned (.tuple #[.agg #[.bool false, .bool false, .bool false, .bool false, .int .i64 2], .bool true]) ∧ Below w.heap.size w w' := by
  go_enter Tryz.func98, Tryz.ntmps98
  go_wp2_with fail
  exact bodyPost_ret (v := .tuple #[.agg #[.bool false, .bool false, .bool false, .bool false, .int .i64 2], .bool true]) (by simp [results, Tryz.results98, go_sem]) rfl ⟨rfl, (Below.refl _ _).alloc (Nat.le_refl _) _⟩
theorem rshapeOf_8 (w : World) : Calls Tryz.prog 98 #[.int .i64 8] w fun e w' => e = .returned (.tuple #[.agg #[.bool true, .bool false, .bool false, .bool false, .int .i64 2], .bool true]) ∧ Below w.heap.size w w' := by
  go_enter Tryz.func98, Tryz.ntmps98
  go_wp2_with fail
  exact bodyPost_ret (v := .tuple #[.agg #[.bool true, .bool false, .bool false, .bool false, .int .i64 2], .bool true]) (by simp [results, Tryz.results98, go_sem]) rfl ⟨rfl, (Below.refl _ _).alloc (Nat.le_refl _) _⟩
theorem rshapeOf_9 (w : World) : Calls Tryz.prog 98 #[.int .i64 9] w fun e w' => e = .returned (.tuple #[.agg #[.bool false, .bool false, .bool false, .bool false, .int .i64 3], .bool true]) ∧ Below w.heap.size w w' := by
  go_enter Tryz.func98, Tryz.ntmps98
  go_wp2_with fail
  exact bodyPost_ret (v := .tuple #[.agg #[.bool false, .bool false, .bool false, .bool false, .int .i64 3], .bool true]) (by simp [results, Tryz.results98, go_sem]) rfl ⟨rfl, (Below.refl _ _).alloc (Nat.le_refl _) _⟩
theorem rshapeOf_10 (w : World) : Calls Tryz.prog 98 #[.int .i64 10] w fun e w' => e = .returned (.tuple #[.agg #[.bool true, .bool false, .bool false, .bool false, .int .i64 2], .bool true]) ∧ Below w.heap.size w w' := by
  go_enter Tryz.func98, Tryz.ntmps98
  go_wp2_with fail
  exact bodyPost_ret (v := .tuple #[.agg #[.bool true, .bool false, .bool false, .bool false, .int .i64 2], .bool true]) (by simp [results, Tryz.results98, go_sem]) rfl ⟨rfl, (Below.refl _ _).alloc (Nat.le_refl _) _⟩
theorem rshapeOf_11 (w : World) : Calls Tryz.prog 98 #[.int .i64 11] w fun e w' => e = .returned (.tuple #[.agg #[.bool false, .bool false, .bool false, .bool false, .int .i64 0], .bool true]) ∧ Below w.heap.size w w' := by
  go_enter Tryz.func98, Tryz.ntmps98
  go_wp2_with fail
  exact bodyPost_ret (v := .tuple #[.agg #[.bool false, .bool false, .bool false, .bool false, .int .i64 0], .bool true]) (by simp [results, Tryz.results98, go_sem]) rfl ⟨rfl, (Below.refl _ _).alloc (Nat.le_refl _) _⟩
theorem rshapeOf_12 (w : World) : Calls Tryz.prog 98 #[.int .i64 12] w fun e w' => e = .returned (.tuple #[.agg #[.bool false, .bool false, .bool false, .bool false, .int .i64 2], .bool true]) ∧ Below w.heap.size w w' := by
  go_enter Tryz.func98, Tryz.ntmps98
  go_wp2_with fail
  exact bodyPost_ret (v := .tuple #[.agg #[.bool false, .bool false, .bool false, .bool false, .int .i64 2], .bool true]) (by simp [results, Tryz.results98, go_sem]) rfl ⟨rfl, (Below.refl _ _).alloc (Nat.le_refl _) _⟩
theorem rshapeOf_13 (w : World) : Calls Tryz.prog 98 #[.int .i64 13] w fun e w' => e = .returned (.tuple #[.agg #[.bool true, .bool true, .bool false, .bool false, .int .i64 3], .bool true]) ∧ Below w.heap.size w w' := by
  go_enter Tryz.func98, Tryz.ntmps98
  go_wp2_with fail
  exact bodyPost_ret (v := .tuple #[.agg #[.bool true, .bool true, .bool false, .bool false, .int .i64 3], .bool true]) (by simp [results, Tryz.results98, go_sem]) rfl ⟨rfl, (Below.refl _ _).alloc (Nat.le_refl _) _⟩
theorem rshapeOf_14 (w : World) : Calls Tryz.prog 98 #[.int .i64 14] w fun e w' => e = .returned (.tuple #[.agg #[.bool false, .bool false, .bool true, .bool true, .int .i64 0], .bool true]) ∧ Below w.heap.size w w' := by
  go_enter Tryz.func98, Tryz.ntmps98
  go_wp2_with fail
  exact bodyPost_ret (v := .tuple #[.agg #[.bool false, .bool false, .bool true, .bool true, .int .i64 0], .bool true]) (by simp [results, Tryz.results98, go_sem]) rfl ⟨rfl, (Below.refl _ _).alloc (Nat.le_refl _) _⟩
theorem rshapeOf_15 (w : World) : Calls Tryz.prog 98 #[.int .i64 15] w fun e w' => e = .returned (.tuple #[.agg #[.bool false, .bool false, .bool false, .bool false, .int .i64 3], .bool true]) ∧ Below w.heap.size w w' := by
  go_enter Tryz.func98, Tryz.ntmps98
  go_wp2_with fail
  exact bodyPost_ret (v := .tuple #[.agg #[.bool false, .bool false, .bool false, .bool false, .int .i64 3], .bool true]) (by simp [results, Tryz.results98, go_sem]) rfl ⟨rfl, (Below.refl _ _).alloc (Nat.le_refl _) _⟩
theorem rshapeOf_no (k : Int) (w : World) (h : shapeK k = none) : Calls Tryz.prog 98 #[.int .i64 k] w fun e w' => e = .returned (.tuple #[.agg #[.bool false, .bool false, .bool false, .bool false, .int .i64 0], .bool false]) ∧ Below w.heap.size w w' := by
  obtain ⟨e1, e2, e3, e4, e5, e6, e7, e8, e9, e10, e11, e12, e13, e14, e15⟩ := shapeK_none h
  clear h
  go_enter Tryz.func98, Tryz.ntmps98
  go_wp2_with fail
  exact bodyPost_ret (v := .tuple #[.agg #[.bool false, .bool false, .bool false, .bool false, .int .i64 0], .bool false]) (by simp [results, Tryz.results98, go_sem]) rfl ⟨rfl, (Below.refl _ _).alloc (Nat.le_refl _) _⟩
theorem rshapeOf_yes (k : Int) (nn nu ns : Nat) (w : World) (h : shapeK k = some (nn, nu, ns)) : Calls Tryz.prog 98 #[.int .i64 k] w fun e w' => e = .returned (.tuple #[.agg #[.bool (decide (1 ≤ nn)), .bool (decide (2 ≤ nn)), .bool (decide (1 ≤ nu)), .bool (decide (2 ≤ nu)), .int .i64 ns], .bool true]) ∧ Below w.heap.size w w' := by
  rcases shapeK_cases h with ⟨rfl, e⟩ | ⟨rfl, e⟩ | ⟨rfl, e⟩ | ⟨rfl, e⟩ | ⟨rfl, e⟩ | ⟨rfl, e⟩ | ⟨rfl, e⟩ | ⟨rfl, e⟩ | ⟨rfl, e⟩ | ⟨rfl, e⟩ | ⟨rfl, e⟩ | ⟨rfl, e⟩ | ⟨rfl, e⟩ | ⟨rfl, e⟩ | ⟨rfl, e⟩
  · cases e; exact rshapeOf_1 w
  · cases e; exact rshapeOf_2 w
  · cases e; exact rshapeOf_3 w
  · cases e; exact rshapeOf_4 w
  · cases e; exact rshapeOf_5 w
  · cases e; exact rshapeOf_6 w
  · cases e; exact rshapeOf_7 w
  · cases e; exact rshapeOf_8 w
  · cases e; exact rshapeOf_9 w
  · cases e; exact rshapeOf_10 w
  · cases e; exact rshapeOf_11 w
  · cases e; exact rshapeOf_12 w
  · cases e; exact rshapeOf_13 w
  · cases e; exact rshapeOf_14 w
  · cases e; exact rshapeOf_15 w
theorem sshapeOf_1 (w : World) : Calls Tryz.prog 81 #[.int .i64 1] w fun e w' => e = .returned (.tuple #[.agg #[.int .i64 0, .int .i64 1, .int .i64 0], .bool true]) ∧ Below w.heap.size w w' := by
  go_enter Tryz.func81, Tryz.ntmps81
  go_wp2_with fail
  exact bodyPost_ret (v := .tuple #[.agg #[.int .i64 0, .int .i64 1, .int .i64 0], .bool true]) (by simp [results, Tryz.results81, go_sem]) rfl ⟨rfl, (Below.refl _ _).alloc (Nat.le_refl _) _⟩
theorem sshapeOf_2 (w : World) : Calls Tryz.prog 81 #[.int .i64 2] w fun e w' => e = .returned (.tuple #[.agg #[.int .i64 0, .int .i64 1, .int .i64 0], .bool true]) ∧ Below w.heap.size w w' := by
  go_enter Tryz.func81, Tryz.ntmps81
  go_wp2_with fail
  exact bodyPost_ret (v := .tuple #[.agg #[.int .i64 0, .int .i64 1, .int .i64 0], .bool true]) (by simp [results, Tryz.results81, go_sem]) rfl ⟨rfl, (Below.refl _ _).alloc (Nat.le_refl _) _⟩
theorem sshapeOf_3 (w : World) : Calls Tryz.prog 81 #[.int .i64 3] w fun e w' => e = .returned (.tuple #[.agg #[.int .i64 1, .int .i64 0, .int .i64 0], .bool true]) ∧ Below w.heap.size w w' := by
  go_enter Tryz.func81, Tryz.ntmps81
  go_wp2_with fail
  exact bodyPost_ret (v := .tuple #[.agg #[.int .i64 1, .int .i64 0, .int .i64 0], .bool true]) (by simp [results, Tryz.results81, go_sem]) rfl ⟨rfl, (Below.refl _ _).alloc (Nat.le_refl _) _⟩
theorem sshapeOf_4 (w : World) : Calls Tryz.prog 81 #[.int .i64 4] w fun e w' => e = .returned (.tuple #[.agg #[.int .i64 2, .int .i64 0, .int .i64 0], .bool true]) ∧ Below w.heap.size w w' := by
  go_enter Tryz.func81, Tryz.ntmps81
  go_wp2_with fail
  exact bodyPost_ret (v := .tuple #[.agg #[.int .i64 2, .int .i64 0, .int .i64 0], .bool true]) (by simp [results, Tryz.results81, go_sem]) rfl ⟨rfl, (Below.refl _ _).alloc (Nat.le_refl _) _⟩
theorem sshapeOf_5 (w : World) : Calls Tryz.prog 81 #[.int .i64 5] w fun e w' => e = .returned (.tuple #[.agg #[.int .i64 1, .int .i64 1, .int .i64 0], .bool true]) ∧ Below w.heap.size w w' := by
  go_enter Tryz.func81, Tryz.ntmps81
  go_wp2_with fail
  exact bodyPost_ret (v := .tuple #[.agg #[.int .i64 1, .int .i64 1, .int .i64 0], .bool true]) (by simp [results, Tryz.results81, go_sem]) rfl ⟨rfl, (Below.refl _ _).alloc (Nat.le_refl _) _⟩
theorem sshapeOf_6 (w : World) : Calls Tryz.prog 81 #[.int .i64 6] w fun e w' => e = .returned (.tuple #[.agg #[.int .i64 1, .int .i64 0, .int .i64 1], .bool true]) ∧ Below w.heap.size w w' := by
  go_enter Tryz.func81, Tryz.ntmps81
  go_wp2_with fail
  exact bodyPost_ret (v := .tuple #[.agg #[.int .i64 1, .int .i64 0, .int .i64 1], .bool true]) (by simp [results, Tryz.results81, go_sem]) rfl ⟨rfl, (Below.refl _ _).alloc (Nat.le_refl _) _⟩
theorem sshapeOf_7 (w : World) : Calls Tryz.prog 81 #[.int .i64 7] w fun e w' => e = .returned (.tuple #[.agg #[.int .i64 0, .int .i64 0, .int .i64 2], .bool true]) ∧ Below w.heap.size w w' := by
  go_enter Tryz.func81, Tryz.ntmps81
  go_wp2_with fail
  exact bodyPost_ret (v := .tuple #[.agg #[.int .i64 0, .int .i64 0, .int .i64 2], .bool true]) (by simp [results, Tryz.results81, go_sem]) rfl ⟨rfl, (Below.refl _ _).alloc (Nat.le_refl _) _⟩
theorem sshapeOf_8 (w : World) : Calls Tryz.prog 81 #[.int .i64 8] w fun e w' => e = .returned (.tuple #[.agg #[.int .i64 1, .int .i64 0, .int .i64 2], .bool true]) ∧ Below w.heap.size w w' := by
  go_enter Tryz.func81, Tryz.ntmps81
  go_wp2_with fail
  exact bodyPost_ret (v := .tuple #[.agg #[.int .i64 1, .int .i64 0, .int .i64 2], .bool true]) (by simp [results, Tryz.results81, go_sem]) rfl ⟨rfl, (Below.refl _ _).alloc (Nat.le_refl _) _⟩
theorem sshapeOf_9 (w : World) : Calls Tryz.prog 81 #[.int .i64 9] w fun e w' => e = .returned (.tuple #[.agg #[.int .i64 0, .int .i64 0, .int .i64 3], .bool true]) ∧ Below w.heap.size w w' := by
  go_enter Tryz.func81, Tryz.ntmps81
  go_wp2_with fail
  exact bodyPost_ret (v := .tuple #[.agg #[.int .i64 0, .int .i64 0, .int .i64 3], .bool true]) (by simp [results, Tryz.results81, go_sem]) rfl ⟨rfl, (Below.refl _ _).alloc (Nat.le_refl _) _⟩
theorem sshapeOf_10 (w : World) : Calls Tryz.prog 81 #[.int .i64 10] w fun e w' => e = .returned (.tuple #[.agg #[.int .i64 1, .int .i64 0, .int .i64 2], .bool true]) ∧ Below w.heap.size w w' := by
  go_enter Tryz.func81, Tryz.ntmps81
  go_wp2_with fail
  exact bodyPost_ret (v := .tuple #[.agg #[.int .i64 1, .int .i64 0, .int .i64 2], .bool true]) (by simp [results, Tryz.results81, go_sem]) rfl ⟨rfl, (Below.refl _ _).alloc (Nat.le_refl _) _⟩
theorem sshapeOf_11 (w : World) : Calls Tryz.prog 81 #[.int .i64 11] w fun e w' => e = .returned (.tuple #[.agg #[.int .i64 0, .int .i64 0, .int .i64 0], .bool true]) ∧ Below w.heap.size w w' := by
  go_enter Tryz.func81, Tryz.ntmps81
  go_wp2_with fail
  exact bodyPost_ret (v := .tuple #[.agg #[.int .i64 0, .int .i64 0, .int .i64 0], .bool true]) (by simp [results, Tryz.results81, go_sem]) rfl ⟨rfl, (Below.refl _ _).alloc (Nat.le_refl _) _⟩
theorem sshapeOf_12 (w : World) : Calls Tryz.prog 81 #[.int .i64 12] w fun e w' => e = .returned (.tuple #[.agg #[.int .i64 0, .int .i64 0, .int .i64 2], .bool true]) ∧ Below w.heap.size w w' := by
  go_enter Tryz.func81, Tryz.ntmps81
  go_wp2_with fail
  exact bodyPost_ret (v := .tuple #[.agg #[.int .i64 0, .int .i64 0, .int .i64 2], .bool true]) (by simp [results, Tryz.results81, go_sem]) rfl ⟨rfl, (Below.refl _ _).alloc (Nat.le_refl _) _⟩
theorem sshapeOf_13 (w : World) : Calls Tryz.prog 81 #[.int .i64 13] w fun e w' => e = .returned (.tuple #[.agg #[.int .i64 2, .int .i64 0, .int .i64 3], .bool true]) ∧ Below w.heap.size w w' := by
  go_enter Tryz.func81, Tryz.ntmps81
  go_wp2_with fail
  exact bodyPost_ret (v := .tuple #[.agg #[.int .i64 2, .int .i64 0, .int .i64 3], .bool true]) (by simp [results, Tryz.results81, go_sem]) rfl ⟨rfl, (Below.refl _ _).alloc (Nat.le_refl _) _⟩
theorem sshapeOf_14 (w : World) : Calls Tryz.prog 81 #[.int .i64 14] w fun e w' => e = .returned (.tuple #[.agg #[.int .i64 0, .int .i64 2, .int .i64 0], .bool true]) ∧ Below w.heap.size w w' := by
  go_enter Tryz.func81, Tryz.ntmps81
  go_wp2_with fail
  exact bodyPost_ret (v := .tuple #[.agg #[.int .i64 0, .int .i64 2, .int .i64 0], .bool true]) (by simp [results, Tryz.results81, go_sem]) rfl ⟨rfl, (Below.refl _ _).alloc (Nat.le_refl _) _⟩
theorem sshapeOf_15 (w : World) : Calls Tryz.prog 81 #[.int .i64 15] w fun e w' => e = .returned (.tuple #[.agg #[.int .i64 0, .int .i64 0, .int .i64 3], .bool true]) ∧ Below w.heap.size w w' := by
  go_enter Tryz.func81, Tryz.ntmps81
  go_wp2_with fail
  exact bodyPost_ret (v := .tuple #[.agg #[.int .i64 0, .int .i64 0, .int .i64 3], .bool true]) (by simp [results, Tryz.results81, go_sem]) rfl ⟨rfl, (Below.refl _ _).alloc (Nat.le_refl _) _⟩
theorem sshapeOf_no (k : Int) (w : World) (h : shapeK k = none) : Calls Tryz.prog 81 #[.int .i64 k] w fun e w' => e = .returned (.tuple #[.agg #[.int .i64 0, .int .i64 0, .int .i64 0], .bool false]) ∧ Below w.heap.size w w' := by
  obtain ⟨e1, e2, e3, e4, e5, e6, e7, e8, e9, e10, e11, e12, e13, e14, e15⟩ := shapeK_none h
  clear h
  go_enter Tryz.func81, Tryz.ntmps81
  go_wp2_with fail
  exact bodyPost_ret (v := .tuple #[.agg #[.int .i64 0, .int .i64 0, .int .i64 0], .bool false]) (by simp [results, Tryz.results81, go_sem]) rfl ⟨rfl, (Below.refl _ _).alloc (Nat.le_refl _) _⟩
theorem sshapeOf_yes (k : Int) (nn nu ns : Nat) (w : World) (h : shapeK k = some (nn, nu, ns)) : Calls Tryz.prog 81 #[.int .i64 k] w fun e w' => e = .returned (.tuple #[.agg #[.int .i64 nn, .int .i64 nu, .int .i64 ns], .bool true]) ∧ Below w.heap.size w w' := by
  rcases shapeK_cases h with ⟨rfl, e⟩ | ⟨rfl, e⟩ | ⟨rfl, e⟩ | ⟨rfl, e⟩ | ⟨rfl, e⟩ | ⟨rfl, e⟩ | ⟨rfl, e⟩ | ⟨rfl, e⟩ | ⟨rfl, e⟩ | ⟨rfl, e⟩ | ⟨rfl, e⟩ | ⟨rfl, e⟩ | ⟨rfl, e⟩ | ⟨rfl, e⟩ | ⟨rfl, e⟩
  · cases e; exact sshapeOf_1 w
  · cases e; exact sshapeOf_2 w
  · cases e; exact sshapeOf_3 w
  · cases e; exact sshapeOf_4 w
  · cases e; exact sshapeOf_5 w
  · cases e; exact sshapeOf_6 w
  · cases e; exact sshapeOf_7 w
  · cases e; exact sshapeOf_8 w
  · cases e; exact sshapeOf_9 w
  · cases e; exact sshapeOf_10 w
  · cases e; exact sshapeOf_11 w
  · cases e; exact sshapeOf_12 w
  · cases e; exact sshapeOf_13 w
  · cases e; exact sshapeOf_14 w
  · cases e; exact sshapeOf_15 w
end Go.Proofs.YtnphcjpccieljaaGreatDoor

namespace Go.Proofs.YtnphcjpccieljaaGreatDoor
open Go.RowKit

def rangedB (k it d : Int) : Bool :=
  if k = 1 then decide (-999999999 ≤ it) && decide (it ≤ 999999999) else
  if k = 2 then decide (it = 0) || decide (it = 1) else
  if k = 5 then decide (1 ≤ it) && decide (it ≤ 999999) else
  if k = 14 then decide (1 ≤ d) && decide (d ≤ 999999) && decide (0 ≤ it) && decide (it ≤ d) else true
set_option maxHeartbeats 1000000 in
theorem rranged_any (k : Int) (nm mr : ByteArray) (it d : Int) (sv : Value) (w : World) :
    Calls Tryz.prog 100 #[.agg #[.int .i64 k, .string nm, .string mr, .int .i64 it, .int .i64 d, sv]] w fun e w' => e = .returned (.bool (rangedB k it d)) ∧ Below w.heap.size w w' := by
  by_cases h1 : k = 1
  · subst h1
    go_enter Tryz.func100, Tryz.ntmps100
    go_wp2_with fail
    all_goals
      go_ret
      exact ⟨ret_boolE (by first | (rw [Bool.eq_iff_iff]; simp [rangedB]; done) | (rw [Bool.eq_iff_iff]; simp [rangedB]; omega)), (Below.refl _ _).alloc (Nat.le_refl _) _⟩
  by_cases h2 : k = 2
  · subst h2
    clear h1
    go_enter Tryz.func100, Tryz.ntmps100
    go_wp2_with fail
    all_goals
      go_ret
      exact ⟨ret_boolE (by first | (rw [Bool.eq_iff_iff]; simp [rangedB]; done) | (rw [Bool.eq_iff_iff]; simp [rangedB]; omega)), (Below.refl _ _).alloc (Nat.le_refl _) _⟩
  by_cases h3 : k = 5
  · subst h3
    clear h1 h2
    go_enter Tryz.func100, Tryz.ntmps100
    go_wp2_with fail
    all_goals
      go_ret
      exact ⟨ret_boolE (by first | (rw [Bool.eq_iff_iff]; simp [rangedB]; done) | (rw [Bool.eq_iff_iff]; simp [rangedB]; omega)), (Below.refl _ _).alloc (Nat.le_refl _) _⟩
  by_cases h4 : k = 14
  · subst h4
    clear h1 h2 h3
    go_enter Tryz.func100, Tryz.ntmps100
    go_wp2_with fail
    all_goals
      go_ret
      exact ⟨ret_boolE (by first | (rw [Bool.eq_iff_iff]; simp [rangedB]; done) | (rw [Bool.eq_iff_iff]; simp [rangedB]; omega)), (Below.refl _ _).alloc (Nat.le_refl _) _⟩
  have HE : Hid (rangedB k it d = true) := Lib.hid (by simp [rangedB, h1, h2, h3, h4])
  have f1 : (k == 1) = false := by simpa using h1
  have f2 : (k == 2) = false := by simpa using h2
  have f3 : (k == 5) = false := by simpa using h3
  have f4 : (k == 14) = false := by simpa using h4
  clear h1 h2 h3 h4
  go_enter Tryz.func100, Tryz.ntmps100
  go_wp2_with fail
  go_ret
  exact ⟨by rw [HE.out]; rfl, (Below.refl _ _).alloc (Nat.le_refl _) _⟩
end Go.Proofs.YtnphcjpccieljaaGreatDoor
