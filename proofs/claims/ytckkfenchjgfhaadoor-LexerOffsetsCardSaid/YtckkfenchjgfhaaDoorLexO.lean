/- Print of the lexer, for tokens that are not great. -/
import Derived.Test.YtckkfenchjgfhaaDoorLexN
import Derived.Test.YtckkfenchjgfhaaDoorLexI
import Derived.RangeFuncRecord
namespace Go.Proofs.YtckkfenchjgfhaaDoor
open Go.RowKit

def PrintRel1 (w : World) (ts : List Tok) (z i : Value) (wr : World) : Prop := ∃ k : Nat, k ≤ ts.length ∧ z = .int .i64 (sizesL (ts.take k)) ∧ i = .int .i64 k ∧ Below w.heap.size w wr ∧ ∀ j (hj : j < ts.length), j < k → checkT ts[j] = 0
def PrintRel2 (w w2 : World) (ts : List Tok) (i : Value) (wr : World) : Prop := ∃ k : Nat, k ≤ ts.length ∧ i = .int .i64 k ∧ Below w.heap.size w wr ∧ w2.heap.size < wr.heap.size ∧ Lib.IsBuilder 33 5 w2.heap.size w2.heap.size (Lib.byteCells (joinL (ts.take k))) wr
/-- what Print returns of tokens -/
def PrintPost (w : World) (ts : List Tok) (e : Ending) (w' : World) : Prop := e = .returned (.tuple #[.string ⟨(printL ts).toArray⟩, .int .i64 (firstErr ts)]) ∧ Below w.heap.size w w'
theorem sizes_bound {ts : List Tok} (h0 : ts.length ≤ 60) (h : ∀ t ∈ ts, t.text.length ≤ 120) (k : Nat) : sizesL (ts.take k) ≤ 7260 := by
  have h1 := sizesL_le (ts := ts.take k) (fun t ht => h t (List.mem_of_mem_take ht))
  have h2 : (ts.take k).length ≤ 60 := by simp; omega
  have h3 : (ts.take k).length * 121 ≤ 60 * 121 := Nat.mul_le_mul_right 121 h2
  omega
theorem printL_err {ts : List Tok} (h : firstErr ts ≠ 0) : printL ts = [] := by unfold printL; rw [if_neg (by simpa using h)]
theorem printL_ok {ts : List Tok} (h : firstErr ts = 0) : printL ts = joinL ts := by unfold printL; rw [if_pos (by simpa using h)]
theorem print_zero (A : Option Addr) (c : Nat) (w : World) :
    Calls Tryd.prog 25 #[.slice A 0 c] w (PrintPost w []) := by
  go_enter Tryd.func25, Tryd.ntmps25
  go_wp2_with fail
  go_loop [4, 13] (fun z i => z = .int .i64 0 ∧ i = .int .i64 0) (fun _ _ => 0)
  case atStart => exact ⟨rfl, rfl⟩
  case round =>
    obtain ⟨rfl, rfl⟩ := hrel
    go_wp2_with fail
    go_loop [9, 10, 34] (fun _ _ i => i = .int .i64 0) (fun _ _ _ => 0)
    case atStart => rfl
    case round =>
      subst hrel
      have HB := Lib.hid (Lib.fresh_isBuilder 33 5 w)
      go_wp2_with (first | (go_at_call 20; refine (Tryd.Builder_String_empty w.heap.size w.heap.size _ HB.out (by simp)).mono ?_; rintro e w' ⟨rfl, hb⟩))
      go_ret2
      exact ⟨rfl, ((Below.refl _ _).alloc (Nat.le_refl _) _).trans hb⟩
theorem builderAt_alloc {T e : TypeId} {B b : Nat} {p : Value} {bs : List Value} {w : World} (h : Lib.BuilderAt T e B b p bs w) (o : Obj) : Lib.BuilderAt T e B b p bs (w.alloc o) := by
  have hlt := h.lt
  obtain ⟨hB, v, hb, hown, hne⟩ := h
  exact ⟨hB, v, (Below.heap_alloc _ _ _ hlt).trans hb, hown.alloc o, hne⟩
theorem isBuilder_alloc {T e : TypeId} {B b : Nat} {bs : List Value} {w : World} (h : Lib.IsBuilder T e B b bs w) (o : Obj) : Lib.IsBuilder T e B b bs (w.alloc o) := by
  rcases h with h | h
  · exact .inl (builderAt_alloc h o)
  · exact .inr (builderAt_alloc h o)
theorem box_kept {b : Nat} {w w' : World} {t : TypeId} {x0 x1 x2 : Value} (ho : Others b (w.alloc (.cells #[x0, x1, x2] t)) w') (hb : w.heap.size ≠ b) (ht : t ≠ 5) : w'.cell? ⟨w.heap.size, 1, none⟩ = some x1 := by
  have h1 := ho.2 w.heap.size _ _ _ (World.alloc_heap_new w (.cells #[x0, x1, x2] t)) hb ht
  rw [Lib.cell_of_heap h1]; rfl
theorem join_step {ts : List Tok} {k : Nat} (h : k < ts.length) (h0 : 0 < k) : joinL (ts.take (k + 1)) = joinL (ts.take k) ++ [32] ++ ts[k].text := by
  rw [take_snoc_get h, joinL_snoc, if_neg]
  intro he
  have := congrArg List.length (List.isEmpty_iff.1 he)
  rw [List.length_take, Nat.min_eq_left (by omega), List.length_nil] at this; omega
theorem join_first {ts : List Tok} (h : 0 < ts.length) : joinL (ts.take 1) = ts[0].text := by
  rw [take_snoc_get h, joinL_snoc]; rfl
set_option maxRecDepth 100000 in
set_option maxHeartbeats 1000000 in
theorem print_pos (b off c : Nat) (ts : List Tok) (w : World) (h0 : 0 < ts.length) (hn : ts.length ≤ 60) (hs : ∀ t ∈ ts, t.text.length ≤ 120) (hb : b < w.heap.size) (hT : ∀ k (h : k < ts.length), TokAt w b (off + k * 3) ts[k]) :
    Calls Tryd.prog 25 #[.slice (some ⟨b, off, none⟩) ts.length c] w (PrintPost w ts) := by
  have HT := Lib.hid hT
  have HS := Lib.hid hs
  clear hT hs
  go_enter Tryd.func25, Tryd.ntmps25
  go_wp2_with fail
  go_loopw [4, 6, 7, 13] (fun z _ _ i wr => PrintRel1 w ts z i wr) (fun _ _ _ i _ => ts.length - (intOf i).toNat)
  case atStart => exact ⟨0, by omega, rfl, rfl, Below.refl _ _, fun _ _ h => absurd h (by omega)⟩
  case round =>
    obtain ⟨k, hk, rfl, rfl, hB, hok⟩ := hrel
    have HOK := Lib.hid hok
    clear hok
    have hz := sizes_bound hn HS.out k
    by_cases hlt : k < ts.length
    · obtain ⟨a0, a1, a2⟩ := (HT.out k hlt).below (hB.mono (Nat.le_refl _)) hb
      have hki : (k : Int) < (ts.length : Int) := by omega
      have HTs : Hid ((⟨ts[k].text.toArray⟩ : ByteArray).size = ts[k].text.length) := Lib.hid (by simp [ByteArray.size])
      have hTs : (⟨ts[k].text.toArray⟩ : ByteArray).size ≤ 120 := by rw [HTs.out]; exact HS.out _ (List.getElem_mem _)
      have HC : Hid (∀ W, Calls Tryd.prog 23 #[.agg #[.int .i64 ts[k].kind, .string ⟨ts[k].text.toArray⟩, .int .i64 ts[k].pos]] W fun e w' => e = .returned (.int .i64 (checkT ts[k])) ∧ Below W.heap.size W w') := Lib.hid (fun W => check_any ts[k].kind ts[k].pos ⟨ts[k].text.toArray⟩ W)
      have HZ : Hid (sizesL (ts.take (k + 1)) = sizesL (ts.take k) + (ts[k].text.length + 1)) := Lib.hid (by rw [take_snoc_get hlt, sizesL_snoc])
      by_cases hck : checkT ts[k] = 0
      · have HN : Hid (∀ j (hj : j < ts.length), j < k + 1 → checkT ts[j] = 0) := Lib.hid (fun j hj hlt' => by
          rcases Nat.lt_or_ge j k with hh | hh
          · exact HOK.out j hj hh
          · obtain rfl : j = k := by omega
            exact hck)
        rw [hck] at HC
        generalize hq : (⟨ts[k].text.toArray⟩ : ByteArray) = T at *
        clear hq
        rw [← HTs.out] at HZ
        generalize ts[k].kind = K at *
        generalize ts[k].pos = P at *
        clear hck HTs
        go_wp2_with (first | (go_at_call 23; refine (HC.out _).mono ?_; rintro e w1 ⟨rfl, hb1⟩; obtain ⟨hc1, hf1⟩ := bcell hb1; have HB1 := Lib.hid hb1; clear hb1))
        go_roundw
        case rel =>
          refine ⟨k + 1, by omega, ?_, by go_num, (hB.alloc hB.size _).trans (HB1.out.mono (by have := hB.size; simp; omega)), HN.out⟩
          rw [HZ.out]; go_num
        case measure => simp [intOf]; omega
      · have HF := Lib.hid (firstErr_at hlt HOK.out hck)
        have HNZ : Hid (printL ts = []) := Lib.hid (printL_err (by rw [HF.out]; exact hck))
        have hbn : (checkT ts[k] != 0) = true := by simpa [bne] using hck
        generalize (⟨ts[k].text.toArray⟩ : ByteArray) = T at *
        generalize ts[k].kind = K at *
        generalize ts[k].pos = P at *
        generalize checkT ts[k] = C at *
        clear hck
        go_wp2_with (first | (go_at_call 23; refine (HC.out _).mono ?_; rintro e w1 ⟨rfl, hb1⟩; have HB1 := Lib.hid hb1; clear hb1))
        go_ret2
        exact ⟨by rw [HNZ.out, HF.out]; rfl, (hB.alloc hB.size _).trans (HB1.out.mono (by have := hB.size; simp; omega))⟩
    · obtain rfl : k = ts.length := by omega
      have HFE : Hid (firstErr ts = 0) := Lib.hid (firstErr_all (fun t ht => by obtain ⟨j, hj, rfl⟩ := List.getElem_of_mem ht; exact HOK.out j hj hj))
      have HPR : Hid (printL ts = joinL ts) := Lib.hid (printL_ok HFE.out)
      have hlim : decide (65536 < ((sizesL (ts.take ts.length) : Nat) : Int) - 1) = false := decide_eq_false (by omega)
      generalize sizesL (ts.take ts.length) = Z at *
      obtain ⟨w2, hw2⟩ : ∃ w2 : World, w2 = wr := ⟨_, rfl⟩
      subst hw2
      go_wp2_with fail
      go_loopw [9, 10, 34] (fun _ _ i wr => PrintRel2 w w2 ts i wr) (fun _ _ i _ => ts.length - (intOf i).toNat)
      case atStart => exact ⟨0, by omega, rfl, hB.alloc hB.size _, by simp, Lib.fresh_isBuilder _ _ _⟩
      case round =>
        obtain ⟨k, hk, rfl, hBr, hsz, hbd⟩ := hrel
        have HBD := Lib.hid hbd
        clear hbd
        by_cases hlt : k < ts.length
        · obtain ⟨a0, a1, a2⟩ := (HT.out k hlt).below (hBr.mono (Nat.le_refl _)) hb
          have hki : (k : Int) < (ts.length : Int) := by omega
          have hjl : (joinL (ts.take k)).length ≤ 7260 := Nat.le_trans (joinL_len _) (sizes_bound hn HS.out k)
          have HTs : Hid ((⟨ts[k].text.toArray⟩ : ByteArray).size = ts[k].text.length) := Lib.hid (by simp [ByteArray.size])
          have hTs : (⟨ts[k].text.toArray⟩ : ByteArray).size ≤ 120 := by rw [HTs.out]; exact HS.out _ (List.getElem_mem _)
          have HCE : Hid (Lib.strCells ⟨ts[k].text.toArray⟩ = Lib.byteCells ts[k].text) := Lib.hid rfl
          by_cases hz0 : k = 0
          · subst hz0
            have HJ := Lib.hid (join_first h0)
            have HB0 : Hid (Lib.IsBuilder 33 5 w2.heap.size w2.heap.size [] wr) := HBD
            generalize (⟨ts[0].text.toArray⟩ : ByteArray) = T at *
            generalize ts[0].kind = K at *
            generalize ts[0].pos = P at *
            simp only [Nat.zero_mul, Nat.add_zero] at a0 a1 a2
            go_wp2_with (first | (go_at_call 19; refine (writeString_any w2.heap.size w2.heap.size [] T _ (isBuilder_alloc HB0.out _) (by simp; omega) (by simp; omega)).mono ?_; rintro e w4 ⟨rfl, hi4, hb4, ho4⟩; have HI4 := Lib.hid hi4; have HB4 := Lib.hid hb4; have HO4 := Lib.hid ho4; clear hi4 hb4 ho4))
            go_roundw
            case rel =>
              refine ⟨1, by omega, by go_num, (hBr.alloc hBr.size _).trans (HB4.out.mono hB.size), Nat.lt_of_lt_of_le (by simp; omega) HO4.out.1, ?_⟩
              rw [HJ.out, ← HCE.out]; exact HI4.out
            case measure => simp [intOf]; omega
          · have hkp : decide ((0 : Int) < (k : Int)) = true := by simp; omega
            have hkp' : 0 < k := by omega
            have HJ := Lib.hid (join_step hlt hkp')
            generalize (⟨ts[k].text.toArray⟩ : ByteArray) = T at *
            generalize ts[k].kind = K at *
            generalize ts[k].pos = P at *
            clear hz0
            go_wp2_with (first
              | (go_at_call 41; refine (writeByte_any w2.heap.size w2.heap.size _ 32 _ (isBuilder_alloc HBD.out _) (by rw [Lib.byteCells_length]; omega) (by simp; omega)).mono ?_; rintro e w3 ⟨rfl, hi3, hb3, ho3⟩; have hT3 := box_kept ho3 (by omega) (by decide); have HI3 := Lib.hid hi3; have HB3 := Lib.hid hb3; have HO3 := Lib.hid ho3; clear hi3 hb3 ho3)
              | (go_at_call 19; refine (writeString_any w2.heap.size w2.heap.size _ T _ HI3.out (by rw [List.length_append, Lib.byteCells_length]; simp; omega) (by have := HO3.out.1; simp at this; omega)).mono ?_; rintro e w4 ⟨rfl, hi4, hb4, ho4⟩; have HI4 := Lib.hid hi4; have HB4 := Lib.hid hb4; have HO4 := Lib.hid ho4; clear hi4 hb4 ho4))
            go_roundw
            case rel =>
              refine ⟨k + 1, by omega, by go_num, ((hBr.alloc hBr.size _).trans (HB3.out.mono hB.size)).trans (HB4.out.mono hB.size), Nat.lt_of_lt_of_le (Nat.lt_of_lt_of_le (by simp; omega) HO3.out.1) HO4.out.1, ?_⟩
              rw [HJ.out, Lib.byteCells_append, Lib.byteCells_append, ← HCE.out]; exact HI4.out
            case measure => simp [intOf]; omega
        · obtain rfl : k = ts.length := by omega
          go_wp2_with (first | (go_at_call 20; refine (Tryd.Builder_String_any w2.heap.size w2.heap.size _ _ HBD.out (by omega)).mono ?_; rintro e w' ⟨rfl, hb⟩; have HB3 := Lib.hid hb; clear hb))
          go_ret2
          exact ⟨by rw [HPR.out, HFE.out]; rfl, hBr.trans (HB3.out.mono hB.size)⟩
theorem print_any {v : Value} {ts : List Tok} {w : World} (h : ToksAt w v ts) (hg : greatL ts = false) :
    Calls Tryd.prog 25 #[v] w (PrintPost w ts) := by
  obtain ⟨hn, hs⟩ := greatL_small hg
  obtain ⟨A, c, rfl, _, h3⟩ := h
  rcases Nat.eq_zero_or_pos ts.length with h0 | h0
  · obtain rfl := List.eq_nil_of_length_eq_zero h0
    exact print_zero A c w
  · obtain ⟨b, off, rfl, hb, hT⟩ := h3 h0
    exact print_pos b off c ts w h0 hn hs hb hT
end Go.Proofs.YtckkfenchjgfhaaDoor
