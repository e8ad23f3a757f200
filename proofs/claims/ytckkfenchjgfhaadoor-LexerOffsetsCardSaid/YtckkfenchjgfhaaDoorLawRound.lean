/- LexerRoundTrip: for every list of tokens the law returns true. -/
import Derived.Test.YtckkfenchjgfhaaDoorLexM
import Derived.Test.YtckkfenchjgfhaaDoorLexO
import Derived.Test.YtckkfenchjgfhaaDoorRefI
import Derived.Test.YtckkfenchjgfhaaDoorLexLaws2
namespace Go.Proofs.YtckkfenchjgfhaaDoor
open Go.RowKit

theorem tokOK_of_check {t : Tok} (h : checkT t = 0) : TokOK t := by
  unfold checkT checkL at h
  by_cases h1 : t.kind < 1 ∨ 4 < t.kind
  · rw [if_pos h1] at h; omega
  · rw [if_neg h1] at h
    cases ht : textL t.kind t.text
    · rw [if_neg (by simp [ht])] at h; omega
    · exact ⟨by omega, by omega, ht⟩
theorem ok_of_first {ts : List Tok} (h : firstErr ts = 0) : ∀ t ∈ ts, TokOK t := by
  induction ts with
  | nil => intro t ht; simp at ht
  | cons u ts ih =>
    intro t ht
    unfold firstErr at h
    by_cases hu : (checkT u == 0) = true
    · rw [if_pos hu] at h
      rcases List.mem_cons.1 ht with rfl | ht
      · exact tokOK_of_check (by simpa using hu)
      · exact ih h t ht
    · rw [if_neg hu] at h; simp [h] at hu
theorem join_flat : ∀ (ts : List Tok) (t : Tok), joinL (t :: ts) = t.text ++ flatL (ts.map (fun u => ([32], u))) []
  | [], t => by simp [joinL, flatL]
  | u :: ts, t => by
    have ih := join_flat ts u
    simp only [joinL, List.map_cons, flatL] at ih ⊢
    rw [ih]; simp
theorem skips_space : Skips [32] := fun x => by
  show skipL (32 :: x) = _
  rw [skipL_blank (.inl rfl)]; rfl
theorem round_pure {ts : List Tok} (h : firstErr ts = 0) : ∃ ms, scanAll (joinL ts) = (ms, none) ∧ ms.map kt = ts.map kt := by
  cases ts with
  | nil => exact ⟨[], rfl, rfl⟩
  | cons t ts =>
    have hok := ok_of_first h
    obtain ⟨ms, h1, h2⟩ := scan_laid (s := []) (t := t) (L := ts.map (fun u => ([32], u))) (z := []) (fun x => by simp) (hok t (by simp))
      (fun x hx => by obtain ⟨u, hu, rfl⟩ := List.mem_map.1 hx; exact ⟨skips_space, hok u (by simp [hu])⟩)
      (fun x hx => by obtain ⟨u, hu, rfl⟩ := List.mem_map.1 hx; exact ⟨32, [], rfl, .inl rfl⟩) rfl (.inl rfl)
    refine ⟨ms, ?_, ?_⟩
    · rw [join_flat]; exact h1
    · rw [h2]; simp
theorem kt_at {xs ys : List Tok} (h : xs.map kt = ys.map kt) : xs.length = ys.length ∧ ∀ k (h1 : k < xs.length) (h2 : k < ys.length), xs[k].kind = ys[k].kind ∧ xs[k].text = ys[k].text := by
  have hl : xs.length = ys.length := by have := congrArg List.length h; simpa using this
  refine ⟨hl, fun k h1 h2 => ?_⟩
  have h3 : (xs.map kt)[k]'(by simpa using h1) = (ys.map kt)[k]'(by simpa using h2) := by simp only [h]
  simp only [List.getElem_map, kt, Prod.mk.injEq] at h3
  exact h3
theorem lawRound_great {v : Value} {ts : List Tok} {w : World} (h : ToksAt w v ts) (hg : greatL ts = true) :
    Calls Tryd.prog 8 #[v] w fun e w' => e = .returned (.bool true) ∧ Below w.heap.size w w' := by
  have HG := Lib.hid (rGreat_any h)
  rw [hg] at HG
  clear hg
  obtain ⟨A, c, rfl, _, _⟩ := h
  go_enter Tryd.func8, Tryd.ntmps8
  go_wp2_with (first | (go_at_call 22; refine (HG.out).mono ?_; rintro e w' ⟨rfl, rfl⟩) | (go_at_call 10; refine (awake_any _).mono ?_; rintro e w' ⟨rfl, hb⟩))
  go_ret
  exact ⟨rfl, hb⟩
set_option maxHeartbeats 400000 in
theorem lawRound_small {v : Value} {ts : List Tok} {w : World} (h : ToksAt w v ts) (hg : greatL ts = false) :
    Calls Tryd.prog 8 #[v] w fun e w' => e = .returned (.bool true) ∧ Below w.heap.size w w' := by
  have HG := Lib.hid (rGreat_any h)
  rw [hg] at HG
  have HP := Lib.hid (print_any h hg)
  have HH := Lib.hid h
  obtain ⟨hn, hs⟩ := greatL_small hg
  have hjl : (joinL ts).length ≤ 7260 := by
    have := sizes_bound hn hs ts.length
    rw [List.take_length] at this
    exact Nat.le_trans (joinL_len _) this
  clear hg hs
  obtain ⟨A, c, rfl, _, _⟩ := h
  by_cases hf : firstErr ts = 0
  · have HPR := Lib.hid (printL_ok hf)
    obtain ⟨ms, hsc, hkt⟩ := round_pure hf
    have HSC := Lib.hid hsc
    have HKT := Lib.hid hkt
    have HF := Lib.hid hf
    clear hf hsc hkt
    go_enter Tryd.func8, Tryd.ntmps8
    go_wp2_with (first | (go_at_call 22; refine (HG.out).mono ?_; rintro e w' ⟨rfl, rfl⟩))
    refine (HP.out).mono ?_
    rintro e w1 ⟨rfl, hb1⟩
    rw [HF.out, HPR.out]
    have HS : Hid (∀ W, Calls Tryd.prog 15 #[.string ⟨(joinL ts).toArray⟩] W (ScanPost W ⟨(joinL ts).toArray⟩)) := Lib.hid (fun W => scan_short _ W (by simp [ByteArray.size]; omega))
    have HSC' : Hid (scanAll (⟨(joinL ts).toArray⟩ : ByteArray).data.toList = (ms, none)) := Lib.hid (by simpa using HSC.out)
    generalize (⟨(joinL ts).toArray⟩ : ByteArray) = J at *
    go_wp2_with fail
    refine (HS.out _).mono ?_
    rintro e w2 ⟨v2, p2, c2, rfl, hb2, hR⟩
    rcases hR with ⟨ts2, hq, rfl, rfl, ho, _, _⟩ | ⟨q, hq, _⟩
    · obtain rfl : ts2 = ms := by rw [HSC'.out] at hq; exact (Prod.mk.inj hq).1.symm
      have HB := Lib.hid (hb1.trans (hb2.mono hb1.size))
      obtain ⟨hl, hk⟩ := kt_at HKT.out.symm
      have HQ := Lib.hid (rSame_yes (by omega) (HH.out.below HB.out) (toks_of_owns ho) hl hk)
      obtain ⟨B, d, rfl, _, _⟩ := toks_of_owns ho
      clear ho hq hb1 hb2 hl hk
      go_wp2_with (first
        | (go_at_call 21; refine (HQ.out).mono ?_; rintro e w3 ⟨rfl, n, rfl⟩)
        | (go_at_call 10; refine (awake_any _).mono ?_; rintro e w4 ⟨rfl, hb⟩))
      go_ret
      exact ⟨rfl, (below_drewN HB.out n).trans (hb.mono HB.out.size)⟩
    · rw [HSC'.out] at hq; simp at hq
  · have HPR := Lib.hid (printL_err hf)
    have hne : (firstErr ts != 0) = true := by simpa [bne] using hf
    clear hf
    go_enter Tryd.func8, Tryd.ntmps8
    go_wp2_with (first | (go_at_call 22; refine (HG.out).mono ?_; rintro e w' ⟨rfl, rfl⟩))
    refine (HP.out).mono ?_
    rintro e w1 ⟨rfl, hb1⟩
    rw [HPR.out]
    have HB := Lib.hid hb1
    clear hb1
    generalize firstErr ts = C at *
    go_wp2_with (first | (go_at_call 10; refine (awake_any _).mono ?_; rintro e w4 ⟨rfl, hb⟩))
    go_ret
    exact ⟨rfl, HB.out.trans (hb.mono HB.out.size)⟩
theorem lawRound_any {v : Value} {ts : List Tok} {w : World} (h : ToksAt w v ts) :
    Calls Tryd.prog 8 #[v] w fun e w' => e = .returned (.bool true) ∧ Below w.heap.size w w' := by
  cases hg : greatL ts
  · exact lawRound_small h hg
  · exact lawRound_great h hg
end Go.Proofs.YtckkfenchjgfhaaDoor
