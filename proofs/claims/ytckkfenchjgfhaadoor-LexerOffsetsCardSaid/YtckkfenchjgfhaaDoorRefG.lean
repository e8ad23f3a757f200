/- The reference's next. -/
import Derived.Test.YtckkfenchjgfhaaDoorRefF
import Derived.Test.YtckkfenchjgfhaaDoorLexK
import Derived.Test.YtckkfenchjgfhaaDoorLexL
namespace Go.Proofs.YtckkfenchjgfhaaDoor
open Go.RowKit

set_option maxHeartbeats 1000000 in
theorem rnext_word (s : ByteArray) (i : Nat) (w : World) (hs : s.size ≤ 65536) (hi : i < s.size) (hl : isLetter ((s[i]'hi).toNat : Int) = true) (m : Nat) (hm0 : m = runL innerB (s.data.toList.drop i)) (hsl : hasSlash ((s.data.toList.drop i).take m) = false) :
    Calls Tryd.prog 35 #[.string s, .int .i64 i] w fun e w' => e = .returned (.agg #[.int .i64 1, .string (s.extract i (i + m)), .int .i64 i]) ∧ Below w.heap.size w w' := by
  have hmr : m ≤ s.size - i := by rw [hm0]; have := runL_le innerB (s.data.toList.drop i); simpa using this
  have Hr : Hid (∀ W, Calls Tryd.prog 51 #[.string s, .int .i64 i] W fun e w' => e = .returned (.int .i64 ((i + m : Nat) : Int)) ∧ W = w') := Lib.hid (fun W => by rw [hm0]; exact rrun_any s i W (by unfold maxLen; omega) (by omega))
  obtain ⟨T, HT⟩ : ∃ T, Hid (T = s.extract i (i + m)) := ⟨_, Lib.hid rfl⟩
  have HTs : Hid (T.size = m) := Lib.hid (by rw [HT.out]; simp; omega)
  have hTs : T.size ≤ 65536 := by rw [HTs.out]; omega
  have Hsl : Hid (∀ W, Calls Tryd.prog 32 #[.string T] W fun e w' => e = .returned (.int .i64 (runL noSlashB T.data.toList)) ∧ W = w') := Lib.hid (fun W => rslash_any T W (by unfold maxLen; omega))
  have hsd : decide (runL noSlashB T.data.toList < T.size) = false := by
    rw [HT.out, ← toList_len, extract_list, ← hasSlash_run]; simpa using hsl
  clear hsl hm0
  rw [← HT.out]
  have hex : s.extract i (i + m) = T := HT.out.symm
  generalize runL noSlashB T.data.toList = q at *
  go_enter Tryd.func35, Tryd.ntmps35
  go_wp2_with (first | (go_at_call 45; refine (rletter_yes _ _ hl).mono ?_; rintro e w' ⟨rfl, rfl⟩) | (go_at_call 51; refine (Hr.out _).mono ?_; rintro e w' ⟨rfl, rfl⟩))
  go_quiet ((go_at_call 32; exact quiet_left (Hsl.out _)))
  go_wp2_with fail
  exact bodyPost_ret (v := .agg #[.int .i64 1, .string T, .int .i64 i]) (by simp [results, Tryd.results35, go_sem]) rfl ⟨rfl, by refine Below.setCell (Below.setCell (Below.setCell (below_drewN (((Below.refl _ _).alloc (Nat.le_refl _) _).alloc (by simp) _) _) ?_ _) ?_ _) ?_ _ <;> simp⟩
set_option maxHeartbeats 1000000 in
theorem rnext_label (s : ByteArray) (i : Nat) (w : World) (hs : s.size ≤ 65536) (hi : i < s.size) (hl : isLetter ((s[i]'hi).toNat : Int) = true) (m : Nat) (hm0 : m = runL innerB (s.data.toList.drop i)) (hsl : hasSlash ((s.data.toList.drop i).take m) = true) :
    Calls Tryd.prog 35 #[.string s, .int .i64 i] w fun e w' => e = .returned (.agg #[.int .i64 2, .string (s.extract i (i + m)), .int .i64 i]) ∧ Below w.heap.size w w' := by
  have hmr : m ≤ s.size - i := by rw [hm0]; have := runL_le innerB (s.data.toList.drop i); simpa using this
  have Hr : Hid (∀ W, Calls Tryd.prog 51 #[.string s, .int .i64 i] W fun e w' => e = .returned (.int .i64 ((i + m : Nat) : Int)) ∧ W = w') := Lib.hid (fun W => by rw [hm0]; exact rrun_any s i W (by unfold maxLen; omega) (by omega))
  obtain ⟨T, HT⟩ : ∃ T, Hid (T = s.extract i (i + m)) := ⟨_, Lib.hid rfl⟩
  have HTs : Hid (T.size = m) := Lib.hid (by rw [HT.out]; simp; omega)
  have hTs : T.size ≤ 65536 := by rw [HTs.out]; omega
  have Hsl : Hid (∀ W, Calls Tryd.prog 32 #[.string T] W fun e w' => e = .returned (.int .i64 (runL noSlashB T.data.toList)) ∧ W = w') := Lib.hid (fun W => rslash_any T W (by unfold maxLen; omega))
  have hsd : decide (runL noSlashB T.data.toList < T.size) = true := by
    rw [HT.out, ← toList_len, extract_list, ← hasSlash_run]; simpa using hsl
  clear hsl hm0
  rw [← HT.out]
  have hex : s.extract i (i + m) = T := HT.out.symm
  generalize runL noSlashB T.data.toList = q at *
  go_enter Tryd.func35, Tryd.ntmps35
  go_wp2_with (first | (go_at_call 45; refine (rletter_yes _ _ hl).mono ?_; rintro e w' ⟨rfl, rfl⟩) | (go_at_call 51; refine (Hr.out _).mono ?_; rintro e w' ⟨rfl, rfl⟩))
  go_quiet ((go_at_call 32; exact quiet_left (Hsl.out _)))
  go_wp2_with fail
  exact bodyPost_ret (v := .agg #[.int .i64 2, .string T, .int .i64 i]) (by simp [results, Tryd.results35, go_sem]) rfl ⟨rfl, by refine Below.setCell (Below.setCell (Below.setCell (Below.setCell (below_drewN (((Below.refl _ _).alloc (Nat.le_refl _) _).alloc (by simp) _) _) ?_ _) ?_ _) ?_ _) ?_ _ <;> simp⟩
set_option maxHeartbeats 1000000 in
theorem rnext_num (s : ByteArray) (i : Nat) (w : World) (hs : s.size ≤ 65536) (hi : i < s.size) (hl : isLetter ((s[i]'hi).toNat : Int) = false) (hd : isDigit ((s[i]'hi).toNat : Int) = true) (m : Nat) (hm0 : m = runL innerB (s.data.toList.drop (i + 1)))  :
    Calls Tryd.prog 35 #[.string s, .int .i64 i] w fun e w' => e = .returned (.agg #[.int .i64 3, .string (s.extract i (i + 1 + m)), .int .i64 i]) ∧ Below w.heap.size w w' := by
  have hmr : m ≤ s.size - i - 1 := by rw [hm0]; have := runL_le innerB (s.data.toList.drop (i + 1)); simp at this; omega
  have Hr : Hid (∀ W, Calls Tryd.prog 51 #[.string s, .int .i64 ((i : Int) + 1)] W fun e w' => e = .returned (.int .i64 ((i + 1 + m : Nat) : Int)) ∧ W = w') := Lib.hid (fun W => by rw [hm0]; exact rrun_any s (i + 1) W (by unfold maxLen; omega) (by omega))
  clear hm0
  obtain ⟨T, HT⟩ : ∃ T, Hid (T = s.extract i (i + 1 + m)) := ⟨_, Lib.hid rfl⟩
  rw [← HT.out]
  have hex : s.extract i (i + 1 + m) = T := HT.out.symm
  go_enter Tryd.func35, Tryd.ntmps35
  go_wp2_with (first | (go_at_call 45; refine (rletter_no _ _ hl).mono ?_; rintro e w' ⟨rfl, rfl⟩) | (go_at_call 46; refine (rdigit_any _ _).mono ?_; rintro e w' ⟨rfl, rfl⟩) | (go_at_call 51; refine (Hr.out _).mono ?_; rintro e w' ⟨rfl, rfl⟩))
  exact bodyPost_ret (v := .agg #[.int .i64 3, .string T, .int .i64 i]) (by simp [results, Tryd.results35, go_sem]) rfl ⟨rfl, (Below.refl _ _).alloc (Nat.le_refl _) _⟩
set_option maxHeartbeats 1000000 in
theorem rnext_neg (s : ByteArray) (i : Nat) (w : World) (hs : s.size ≤ 65536) (hi : i < s.size) (hl : isLetter ((s[i]'hi).toNat : Int) = false) (hd : isDigit ((s[i]'hi).toNat : Int) = false) (hm : (((s[i]'hi).toNat : Int) == 45) = true) (h1 : i + 1 < s.size) (hd1 : isDigit ((s[i + 1]'h1).toNat : Int) = true) (m : Nat) (hm0 : m = runL innerB (s.data.toList.drop (i + 1)))  :
    Calls Tryd.prog 35 #[.string s, .int .i64 i] w fun e w' => e = .returned (.agg #[.int .i64 3, .string (s.extract i (i + 1 + m)), .int .i64 i]) ∧ Below w.heap.size w w' := by
  have hmr : m ≤ s.size - i - 1 := by rw [hm0]; have := runL_le innerB (s.data.toList.drop (i + 1)); simp at this; omega
  have Hr : Hid (∀ W, Calls Tryd.prog 51 #[.string s, .int .i64 ((i : Int) + 1)] W fun e w' => e = .returned (.int .i64 ((i + 1 + m : Nat) : Int)) ∧ W = w') := Lib.hid (fun W => by rw [hm0]; exact rrun_any s (i + 1) W (by unfold maxLen; omega) (by omega))
  clear hm0
  obtain ⟨T, HT⟩ : ∃ T, Hid (T = s.extract i (i + 1 + m)) := ⟨_, Lib.hid rfl⟩
  rw [← HT.out]
  have hex : s.extract i (i + 1 + m) = T := HT.out.symm
  have hlt1 : decide ((i : Int) + 1 < (s.size : Int)) = true := by simp; omega
  go_enter Tryd.func35, Tryd.ntmps35
  go_wp2_with (first | (go_at_call 45; refine (rletter_no _ _ hl).mono ?_; rintro e w' ⟨rfl, rfl⟩) | (go_at_call 46; refine (rdigit_any _ _).mono ?_; rintro e w' ⟨rfl, rfl⟩) | (go_at_call 51; refine (Hr.out _).mono ?_; rintro e w' ⟨rfl, rfl⟩))
  exact bodyPost_ret (v := .agg #[.int .i64 3, .string T, .int .i64 i]) (by simp [results, Tryd.results35, go_sem]) rfl ⟨rfl, (Below.refl _ _).alloc (Nat.le_refl _) _⟩
set_option maxHeartbeats 1000000 in
theorem rnext_sign (s : ByteArray) (i : Nat) (w : World) (_hs : s.size ≤ 65536) (hi : i < s.size) (hl : isLetter ((s[i]'hi).toNat : Int) = false) (hd : isDigit ((s[i]'hi).toNat : Int) = false) (hm : (((s[i]'hi).toNat : Int) == 45) = false)  :
    Calls Tryd.prog 35 #[.string s, .int .i64 i] w fun e w' => e = .returned (.agg #[.int .i64 4, .string (s.extract i (i + signL (s.data.toList.drop i))), .int .i64 i]) ∧ Below w.heap.size w w' := by
  obtain ⟨T, HT⟩ : ∃ T, Hid (T = s.extract i (i + signL (s.data.toList.drop i))) := ⟨_, Lib.hid rfl⟩
  rw [← HT.out]
  have hex : s.extract i (i + signL (s.data.toList.drop i)) = T := HT.out.symm
  have Hs : Hid (∀ W, Calls Tryd.prog 52 #[.string (s.extract i s.size)] W fun e w' => e = .returned (.string T) ∧ Below W.heap.size W w') := Lib.hid (fun W => by
    have h1 := rsign_any (s.extract i s.size) W
    rw [extract_end, extract_extract0 s i _ (by have := signL_le (s.data.toList.drop i); simp at this; omega), ← HT.out] at h1
    exact h1)
  clear hex
  go_enter Tryd.func35, Tryd.ntmps35
  go_wp2_with (first | (go_at_call 45; refine (rletter_no _ _ hl).mono ?_; rintro e w' ⟨rfl, rfl⟩) | (go_at_call 46; refine (rdigit_any _ _).mono ?_; rintro e w' ⟨rfl, rfl⟩) | (go_at_call 52; refine (Hs.out _).mono ?_; rintro e w' ⟨rfl, hb⟩; obtain ⟨hc, hf⟩ := bcell hb))
  have h3 := cell3_new w 35 (.int .i64 0) (.string ⟨#[]⟩) (.int .i64 0)
  obtain ⟨r0, r1, r2⟩ := store3 (.int .i64 4) (.string T) (.int .i64 i) ((hc _ 0 (by simp)).trans h3.1) ((hc _ 1 (by simp)).trans h3.2.1) ((hc _ 2 (by simp)).trans h3.2.2)
  have hb0 : Below w.heap.size w _ := ((Below.refl _ w).alloc (Nat.le_refl _) _).trans (hb.mono (by simp))
  exact bodyPost_ret (v := .agg #[.int .i64 4, .string T, .int .i64 i]) (by simp [results, Tryd.results35, go_sem, r0, r1, r2]) rfl ⟨rfl, ((hb0.setCell (p := ⟨w.heap.size, 0, none⟩) (Nat.le_refl _) _).setCell (p := ⟨w.heap.size, 1, none⟩) (Nat.le_refl _) _).setCell (p := ⟨w.heap.size, 2, none⟩) (Nat.le_refl _) _⟩
set_option maxHeartbeats 1000000 in
theorem rnext_minus1 (s : ByteArray) (i : Nat) (w : World) (_hs : s.size ≤ 65536) (hi : i < s.size) (hl : isLetter ((s[i]'hi).toNat : Int) = false) (hd : isDigit ((s[i]'hi).toNat : Int) = false) (hm : (((s[i]'hi).toNat : Int) == 45) = true) (h1 : s.size ≤ i + 1) :
    Calls Tryd.prog 35 #[.string s, .int .i64 i] w fun e w' => e = .returned (.agg #[.int .i64 4, .string (s.extract i (i + signL (s.data.toList.drop i))), .int .i64 i]) ∧ Below w.heap.size w w' := by
  obtain ⟨T, HT⟩ : ∃ T, Hid (T = s.extract i (i + signL (s.data.toList.drop i))) := ⟨_, Lib.hid rfl⟩
  rw [← HT.out]
  have hex : s.extract i (i + signL (s.data.toList.drop i)) = T := HT.out.symm
  have Hs : Hid (∀ W, Calls Tryd.prog 52 #[.string (s.extract i s.size)] W fun e w' => e = .returned (.string T) ∧ Below W.heap.size W w') := Lib.hid (fun W => by
    have h1 := rsign_any (s.extract i s.size) W
    rw [extract_end, extract_extract0 s i _ (by have := signL_le (s.data.toList.drop i); simp at this; omega), ← HT.out] at h1
    exact h1)
  have hlt1 : decide ((i : Int) + 1 < (s.size : Int)) = false := by simp; omega
  clear hex
  go_enter Tryd.func35, Tryd.ntmps35
  go_wp2_with (first | (go_at_call 45; refine (rletter_no _ _ hl).mono ?_; rintro e w' ⟨rfl, rfl⟩) | (go_at_call 46; refine (rdigit_any _ _).mono ?_; rintro e w' ⟨rfl, rfl⟩) | (go_at_call 52; refine (Hs.out _).mono ?_; rintro e w' ⟨rfl, hb⟩; obtain ⟨hc, hf⟩ := bcell hb))
  have h3 := cell3_new w 35 (.int .i64 0) (.string ⟨#[]⟩) (.int .i64 0)
  obtain ⟨r0, r1, r2⟩ := store3 (.int .i64 4) (.string T) (.int .i64 i) ((hc _ 0 (by simp)).trans h3.1) ((hc _ 1 (by simp)).trans h3.2.1) ((hc _ 2 (by simp)).trans h3.2.2)
  have hb0 : Below w.heap.size w _ := ((Below.refl _ w).alloc (Nat.le_refl _) _).trans (hb.mono (by simp))
  exact bodyPost_ret (v := .agg #[.int .i64 4, .string T, .int .i64 i]) (by simp [results, Tryd.results35, go_sem, r0, r1, r2]) rfl ⟨rfl, ((hb0.setCell (p := ⟨w.heap.size, 0, none⟩) (Nat.le_refl _) _).setCell (p := ⟨w.heap.size, 1, none⟩) (Nat.le_refl _) _).setCell (p := ⟨w.heap.size, 2, none⟩) (Nat.le_refl _) _⟩
set_option maxHeartbeats 1000000 in
theorem rnext_minus (s : ByteArray) (i : Nat) (w : World) (_hs : s.size ≤ 65536) (hi : i < s.size) (hl : isLetter ((s[i]'hi).toNat : Int) = false) (hd : isDigit ((s[i]'hi).toNat : Int) = false) (hm : (((s[i]'hi).toNat : Int) == 45) = true) (h1 : i + 1 < s.size) (hd1 : isDigit ((s[i + 1]'h1).toNat : Int) = false) :
    Calls Tryd.prog 35 #[.string s, .int .i64 i] w fun e w' => e = .returned (.agg #[.int .i64 4, .string (s.extract i (i + signL (s.data.toList.drop i))), .int .i64 i]) ∧ Below w.heap.size w w' := by
  obtain ⟨T, HT⟩ : ∃ T, Hid (T = s.extract i (i + signL (s.data.toList.drop i))) := ⟨_, Lib.hid rfl⟩
  rw [← HT.out]
  have hex : s.extract i (i + signL (s.data.toList.drop i)) = T := HT.out.symm
  have Hs : Hid (∀ W, Calls Tryd.prog 52 #[.string (s.extract i s.size)] W fun e w' => e = .returned (.string T) ∧ Below W.heap.size W w') := Lib.hid (fun W => by
    have h1 := rsign_any (s.extract i s.size) W
    rw [extract_end, extract_extract0 s i _ (by have := signL_le (s.data.toList.drop i); simp at this; omega), ← HT.out] at h1
    exact h1)
  have hlt1 : decide ((i : Int) + 1 < (s.size : Int)) = true := by simp; omega
  clear hex
  go_enter Tryd.func35, Tryd.ntmps35
  go_wp2_with (first | (go_at_call 45; refine (rletter_no _ _ hl).mono ?_; rintro e w' ⟨rfl, rfl⟩) | (go_at_call 46; refine (rdigit_any _ _).mono ?_; rintro e w' ⟨rfl, rfl⟩) | (go_at_call 52; refine (Hs.out _).mono ?_; rintro e w' ⟨rfl, hb⟩; obtain ⟨hc, hf⟩ := bcell hb))
  have h3 := cell3_new w 35 (.int .i64 0) (.string ⟨#[]⟩) (.int .i64 0)
  obtain ⟨r0, r1, r2⟩ := store3 (.int .i64 4) (.string T) (.int .i64 i) ((hc _ 0 (by simp)).trans h3.1) ((hc _ 1 (by simp)).trans h3.2.1) ((hc _ 2 (by simp)).trans h3.2.2)
  have hb0 : Below w.heap.size w _ := ((Below.refl _ w).alloc (Nat.le_refl _) _).trans (hb.mono (by simp))
  exact bodyPost_ret (v := .agg #[.int .i64 4, .string T, .int .i64 i]) (by simp [results, Tryd.results35, go_sem, r0, r1, r2]) rfl ⟨rfl, ((hb0.setCell (p := ⟨w.heap.size, 0, none⟩) (Nat.le_refl _) _).setCell (p := ⟨w.heap.size, 1, none⟩) (Nat.le_refl _) _).setCell (p := ⟨w.heap.size, 2, none⟩) (Nat.le_refl _) _⟩
theorem ext_get (s : ByteArray) (i : Nat) (h : i < s.size) (h' : 0 < (s.extract i s.size).size) : (s.extract i s.size)[0] = s[i] := by
  rw [← toList_get _ 0 h', ← toList_get _ i h]
  simp only [extract_end, List.getElem_drop, Nat.add_zero]
theorem ext_get1 (s : ByteArray) (i : Nat) (h : i + 1 < s.size) (h' : 1 < (s.extract i s.size).size) : (s.extract i s.size)[1] = s[i + 1] := by
  rw [← toList_get _ 1 h', ← toList_get _ (i + 1) h]
  simp only [extract_end, List.getElem_drop]
theorem rnext_any (s : ByteArray) (i : Nat) (w : World) (hs : s.size ≤ 65536) (hi : i < s.size) :
    Calls Tryd.prog 35 #[.string s, .int .i64 i] w fun e w' => e = .returned (.agg #[.int .i64 (nextL (s.data.toList.drop i)).1, .string (s.extract i (i + (nextL (s.data.toList.drop i)).2)), .int .i64 i]) ∧ Below w.heap.size w w' := by
  have hz : 0 < (s.extract i s.size).size := by simp; omega
  have e0 := ext_get s i hi hz
  have ee := extract_end s i
  cases hl : isLetter ((s[i]'hi).toNat : Int)
  · have hl' : isLetter (((s.extract i s.size)[0]'hz).toNat : Int) = false := by rw [e0]; exact hl
    cases hd : isDigit ((s[i]'hi).toNat : Int)
    · have hd' : isDigit (((s.extract i s.size)[0]'hz).toNat : Int) = false := by rw [e0]; exact hd
      cases hm : (((s[i]'hi).toNat : Int) == 45)
      · have h := nextL_sign hz hl' hd' (by rw [e0]; exact hm)
        rw [ee] at h
        rw [h]; exact rnext_sign s i w hs hi hl hd hm
      · rcases Nat.lt_or_ge (i + 1) s.size with h1 | h1
        · have hz1 : 1 < (s.extract i s.size).size := by simp; omega
          have e1 := ext_get1 s i h1 hz1
          cases hd1 : isDigit ((s[i + 1]'h1).toNat : Int)
          · have h := nextL_minus hz hl' hd' hz1 (by rw [e1]; exact hd1)
            rw [ee] at h
            rw [h]; exact rnext_minus s i w hs hi hl hd hm h1 hd1
          · have h := nextL_neg hz hl' (by rw [e0]; exact hm) hz1 (by rw [e1]; exact hd1)
            rw [ee, List.tail_drop] at h
            rw [h, ← Nat.add_assoc]; exact rnext_neg s i w hs hi hl hd hm h1 hd1 _ rfl
        · have h := nextL_minus1 hz hl' hd' (by simp; omega)
          rw [ee] at h
          rw [h]; exact rnext_minus1 s i w hs hi hl hd hm h1
    · have h := nextL_num hz hl' (by rw [e0]; exact hd)
      rw [ee, List.tail_drop] at h
      rw [h, ← Nat.add_assoc]; exact rnext_num s i w hs hi hl hd _ rfl
  · have hl' : isLetter (((s.extract i s.size)[0]'hz).toNat : Int) = true := by rw [e0]; exact hl
    cases hsl : hasSlash ((s.data.toList.drop i).take (runL innerB (s.data.toList.drop i)))
    · have h := nextL_word hz hl' (by rw [ee]; exact hsl)
      rw [ee] at h
      rw [h]; exact rnext_word s i w hs hi hl _ rfl hsl
    · have h := nextL_label hz hl' (by rw [ee]; exact hsl)
      rw [ee] at h
      rw [h]; exact rnext_label s i w hs hi hl _ rfl hsl
end Go.Proofs.YtckkfenchjgfhaaDoor
