/- Scan of the lexer, for every text. -/
import Derived.Test.YtckkfenchjgfhaaDoorLexK
import Derived.Test.YtckkfenchjgfhaaDoorLexPure3
namespace Go.Proofs.YtckkfenchjgfhaaDoor
open Go.RowKit

def tokCells (t : Tok) : List Value := [.int .i64 t.kind, .string ⟨t.text.toArray⟩, .int .i64 t.pos]
def toksCells (ts : List Tok) : List Value := ts.flatMap tokCells
theorem toksCells_snoc (ts : List Tok) (t : Tok) : toksCells (ts ++ [t]) = toksCells ts ++ tokCells t := by simp [toksCells]
theorem tokInfo : (Tryd.prog.info? 35).map (fun i => (i.zero, i.size, i.bytes)) = some (some (.agg #[.int .i64 0, .string ⟨#[]⟩, .int .i64 0]), 3, 32) := by kernel_rfl
theorem owns_below {B : Nat} {e : TypeId} {k : Nat} {v : Value} {n : Nat} {xs : List Value} {w w' : World} (h : w.ownsRow B e k v n xs) (hb : Below w.heap.size w w') : w'.ownsRow B e k v n xs :=
  h.kept (row := none) ⟨hb.os, hb.tape, hb.output, hb.size, fun i hi _ => hb.block i hi⟩ (by cases hv : v.ownBlock <;> simp)
theorem cell3_at (w : World) (t : TypeId) (x0 x1 x2 : Value) : ∀ j u, [x0, x1, x2][j]? = some u → (w.alloc (.cells #[x0, x1, x2] t)).cell? ((⟨w.heap.size, 0, none⟩ : Addr).add j) = some u := by
  intro j u hj
  have h3 := cell3_new w t x0 x1 x2
  match j, hj with
  | 0, hj => simp at hj; subst hj; exact h3.1
  | 1, hj => simp at hj; subst hj; exact h3.2.1
  | 2, hj => simp at hj; subst hj; exact h3.2.2
  | j + 3, hj => simp at hj
def ScanRel (w : World) (s : ByteArray) (v i : Value) (wr : World) : Prop := ∃ (k f : Nat) (acc : List Tok), k ≤ s.size ∧ s.size < k + f ∧ acc.length ≤ k ∧ i = .int .i64 k ∧
  wr.ownsRow w.heap.size 35 3 v acc.length (toksCells acc) ∧ (acc = [] → v = .slice none 0 0) ∧ Below w.heap.size w wr ∧ scanT f (s.data.toList.drop k) k acc = scanAll s.data.toList
theorem scan_long (s : ByteArray) (w : World) (h : 65536 < s.size) :
    Calls Tryd.prog 15 #[.string s] w fun e w' => e = .returned (.tuple #[.slice none 0 0, .int .i64 0, .int .i64 4]) ∧ w = w' := by
  go_enter Tryd.func15, Tryd.ntmps15
  go_wp2_with fail
  go_ret3
  exact ⟨rfl, rfl⟩
theorem bytes_eq {a : ByteArray} {l : List UInt8} (h : a.data.toList = l) : (⟨l.toArray⟩ : ByteArray) = a := by
  subst h; rfl
theorem extract_extract0 (s : ByteArray) (k n : Nat) (h : k + n ≤ s.size) : (s.extract k s.size).extract 0 n = s.extract k (k + n) := by
  rw [← bytes_eq (a := (s.extract k s.size).extract 0 n) rfl, ← bytes_eq (a := s.extract k (k + n)) rfl]
  congr 2
  simp [Nat.min_eq_left h]
/-- what a caller finds of a scanned text -/
def ScanPost (w : World) (s : ByteArray) (e : Ending) (w' : World) : Prop :=
  ∃ (v : Value) (p c : Int), e = .returned (.tuple #[v, .int .i64 p, .int .i64 c]) ∧ Below w.heap.size w w' ∧
    ((∃ ts, scanAll s.data.toList = (ts, none) ∧ p = 0 ∧ c = 0 ∧ w'.ownsRow w.heap.size 35 3 v ts.length (toksCells ts) ∧ (ts = [] → v = .slice none 0 0) ∧ ts.length ≤ s.size) ∨
     (∃ q : Nat, scanAll s.data.toList = ([], some q) ∧ q < s.size ∧ p = q ∧ c = 3 ∧ v = .slice none 0 0))
set_option maxHeartbeats 1000000 in
theorem scan_short (s : ByteArray) (w : World) (h : s.size ≤ 65536) :
    Calls Tryd.prog 15 #[.string s] w (ScanPost w s) := by
  have hgt : decide (65536 < (s.size : Int)) = false := by simp; omega
  have hk0 : skipL s.data.toList ≤ s.size := by have := skipL_le s.data.toList; simpa using this
  have Hk : Hid (∀ W, Calls Tryd.prog 33 #[.string s] W fun e w' => e = .returned (.int .i64 (skipL s.data.toList)) ∧ W = w') := Lib.hid (fun W => skip_any s W (by unfold maxLen; omega))
  have HS : Hid (scanT (s.size + 1) (s.data.toList.drop (skipL s.data.toList)) (skipL s.data.toList) [] = scanAll s.data.toList) := Lib.hid (by unfold scanAll; simp)
  generalize skipL s.data.toList = k0 at *
  obtain ⟨i0, hi0, hz0, hz1, hz2⟩ := info_parts tokInfo
  go_enter Tryd.func15, Tryd.ntmps15
  go_wp2_with (first | (go_at_call 33; refine (Hk.out _).mono ?_; rintro e w' ⟨rfl, rfl⟩))
  go_loopw [5, 6, 7, 8] (fun v i _ _ wr => ScanRel w s v i wr) (fun _ i _ _ _ => s.size - (intOf i).toNat)
  case atStart => exact ⟨k0, s.size + 1, [], hk0, by omega, Nat.zero_le _, rfl, ⟨rfl, .inl ⟨rfl, rfl⟩⟩, fun _ => rfl, Below.refl _ _, HS.out⟩
  case round =>
    obtain ⟨k, f, acc, hk, hf, hacc, rfl, hown, hnil, hB, hS⟩ := hrel
    have HS1 := Lib.hid hS
    clear hS HS Hk hk0
    by_cases hlt : k < s.size
    · have hle : (nextL (s.data.toList.drop k)).2 ≤ s.size - k := by
        have := nextL_le (s.data.toList.drop k) (by simp; omega)
        simpa using this
      obtain ⟨T, HT⟩ : ∃ T, Hid (T = s.extract k (k + (nextL (s.data.toList.drop k)).2)) := ⟨_, Lib.hid rfl⟩
      have HTl : Hid (T.data.toList = (s.data.toList.drop k).take (nextL (s.data.toList.drop k)).2) := Lib.hid (by rw [HT.out, extract_list]; simp)
      have HTs : Hid (T.size = (nextL (s.data.toList.drop k)).2) := Lib.hid (by rw [HT.out]; simp; omega)
      have hTs : T.size ≤ s.size - k := by rw [HTs.out]; exact hle
      have Hc : Hid (∀ W, Calls Tryd.prog 34 #[.string (s.extract k s.size)] W fun e w' => e = .returned (.tuple #[.agg #[.int .i64 (nextL (s.data.toList.drop k)).1, .string T, .int .i64 0], .bool (okNext (s.data.toList.drop k))]) ∧ Below W.heap.size W w') := Lib.hid (fun W => by
        have h1 := next_any (s.extract k s.size) W (by unfold maxLen; simp; omega) (by simp; omega)
        rw [extract_end, extract_extract0 s k _ (by omega), ← HT.out] at h1
        exact h1)
      cases hok : okNext (s.data.toList.drop k)
      · rw [hok] at Hc
        obtain ⟨f', rfl⟩ : ∃ f', f = f' + 1 := ⟨f - 1, by omega⟩
        have HE : Hid (scanAll s.data.toList = ([], some k)) := Lib.hid (by rw [← HS1.out, scanT_err (by simp; omega) hok])
        generalize (nextL (s.data.toList.drop k)).1 = K at *
        clear hok hown hnil
        go_wp2_with (first | (go_at_call 34; refine (Hc.out _).mono ?_; rintro e w1 ⟨rfl, hb⟩; obtain ⟨hc, hfz⟩ := bcell hb; have HB := Lib.hid hb; clear hb))
        go_ret3
        exact ⟨_, _, _, rfl, (hB.trans (HB.out.mono hB.size)).alloc (Nat.le_trans hB.size HB.out.size) _, .inr ⟨k, HE.out, hlt, rfl, rfl, rfl⟩⟩
      · rw [hok] at Hc
        obtain ⟨f', rfl⟩ : ∃ f', f = f' + 1 := ⟨f - 1, by omega⟩
        have hpos : 0 < T.size := by rw [HTs.out]; exact okNext_pos hok
        have HE := Lib.hid (HS1.out.symm.trans (scanT_step (by simp; omega) hok))
        have hm : skipL ((s.data.toList.drop k).drop (nextL (s.data.toList.drop k)).2) ≤ s.size - k - T.size := by
          have := skipL_le ((s.data.toList.drop k).drop (nextL (s.data.toList.drop k)).2)
          rw [HTs.out]; simpa [Nat.sub_sub] using this
        have Hsk : Hid (∀ W, Calls Tryd.prog 33 #[.string (s.extract (k + T.size) s.size)] W fun e w' => e = .returned (.int .i64 (skipL ((s.data.toList.drop k).drop (nextL (s.data.toList.drop k)).2))) ∧ W = w') := Lib.hid (fun W => by
          have h1 := skip_any (s.extract (k + T.size) s.size) W (by unfold maxLen; simp; omega)
          rw [extract_end, HTs.out, ← List.drop_drop] at h1
          rw [HTs.out]; exact h1)
        have HA : Hid (advL (s.data.toList.drop k) = T.size + skipL ((s.data.toList.drop k).drop (nextL (s.data.toList.drop k)).2)) := Lib.hid (by rw [HTs.out]; rfl)
        have HK : Hid (tokL (s.data.toList.drop k) k = ⟨(nextL (s.data.toList.drop k)).1, T.data.toList, k⟩) := Lib.hid (by rw [HTl.out]; rfl)
        generalize (nextL (s.data.toList.drop k)).1 = K at *
        generalize skipL ((s.data.toList.drop k).drop (nextL (s.data.toList.drop k)).2) = m at *
        clear hok hle HT HTl HTs HS1
        have HO := Lib.hid hown
        clear hown hnil
        go_wp2_with (first
          | (go_at_call 34; refine (Hc.out _).mono ?_; rintro e w1 ⟨rfl, hb⟩; obtain ⟨hc, hfz⟩ := bcell hb; have HB := Lib.hid hb; clear hb)
          | (at_builtin; refine wpList_append_own _ rfl _ _ 24 rfl w.heap.size 35 i0 _ 3 32 Tryd.underlying24 hi0 hz0 hz1 hz2 rfl (by decide) _ _ _ rfl (((owns_below HO.out HB.out).alloc _).alloc _) ⟨w1.heap.size + 1, 0, none⟩ 1 1 [.int .i64 K, .string T, .int .i64 k] rfl rfl ?c1 ?c2 ?c3 ?c4 ?c5 ?_)
          | (go_at_call 33; refine (Hsk.out _).mono ?_; rintro e w' ⟨rfl, rfl⟩))
        case c1 =>
          have h3 := cell3_at (w1.alloc (Obj.cells #[Value.int IntKind.i64 K, Value.string T, Value.int IntKind.i64 ↑k] 35)) 35 (Value.int IntKind.i64 K) (Value.string T) (Value.int IntKind.i64 ↑k)
          rw [World.size_alloc] at h3
          exact h3
        case c2 => intro u hu; simp at hu; rcases hu with rfl | rfl | rfl <;> rfl
        case c3 => unfold maxLen; omega
        case c4 => omega
        case c5 => have h1 := hB.size; have h2 := HB.out.size; simp; omega
        intro v' w2 hown2 hgrow hne
        have hlt5 := (owns_below HO.out HB.out).lt
        have hne5 : some (w1.heap.size) ≠ u5.ownBlock := fun e => by have := (hlt5 _ e.symm).2; omega
        have hnew := cell3_new w1 35 (Value.int IntKind.i64 K) (Value.string T) (Value.int IntKind.i64 ↑k)
        have hT1 : w2.cell? ⟨w1.heap.size, 1, none⟩ = some (.string T) := hgrow.cell (a := ⟨w1.heap.size, 1, none⟩) ((((Below.refl _ _).alloc (Nat.le_refl _) _).cell (p := ⟨w1.heap.size, 1, none⟩) (by simp)).trans hnew.2.1) hne5
        have HB2 : Hid (Below w.heap.size w w2) := Lib.hid ((((hB.trans (HB.out.mono hB.size)).alloc (Nat.le_trans hB.size HB.out.size) _).alloc (by have h1 := hB.size; have h2 := HB.out.size; simp; omega) _).grown hgrow (by have h1 := hB.size; have h2 := HB.out.size; simp; omega) (fun k e => (hlt5 k e).1))
        have HO2 := Lib.hid hown2
        have HNE := Lib.hid hne
        clear hown2 hgrow hne hlt5 hne5 hnew hc hfz
        go_wp2_with (first | (go_at_call 33; refine (Hsk.out _).mono ?_; rintro e w' ⟨rfl, rfl⟩))
        go_roundw
        case rel =>
          refine ⟨k + T.size + m, f', acc ++ [⟨K, T.data.toList, k⟩], by omega, by omega, by simp; omega, by go_num, ?_, fun h => by simp at h, HB2.out, ?_⟩
          · rw [toksCells_snoc]; simpa [tokCells] using HO2.out
          · have h1 := HE.out
            rw [HA.out, HK.out, List.drop_drop] at h1
            rw [h1, Nat.add_assoc]
        case measure => simp [intOf]; omega
    · have HE : Hid (scanAll s.data.toList = (acc, none)) := Lib.hid (by rw [← HS1.out, scanT_end (by simp; omega)])
      have HO := Lib.hid hown
      have HN := Lib.hid hnil
      clear hown hnil
      go_wp2_with fail
      go_ret3
      exact ⟨_, _, _, rfl, hB, .inl ⟨acc, HE.out, rfl, rfl, HO.out, HN.out, by omega⟩⟩
end Go.Proofs.YtckkfenchjgfhaaDoor
