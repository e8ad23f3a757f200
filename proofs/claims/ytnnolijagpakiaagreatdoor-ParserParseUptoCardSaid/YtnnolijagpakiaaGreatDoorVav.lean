/- Texts of this proof, part 22: what the proof uses of them. -/
import Derived.Test.YtnnolijagpakiaaGreatDoorVau
import Derived.Test.YtnnolijagpakiaaGreatDoorVap
import Derived.Test.YtnnolijagpakiaaGreatDoorVaq
import Derived.Test.YtnnolijagpakiaaGreatDoorVaj
import Derived.Test.YtnnolijagpakiaaGreatDoorVan
import Derived.Test.YtnnolijagpakiaaGreatDoorVao
import Derived.Lib.SmallJoins
import Derived.Test.YtnnolijagpakiaaGreatDoorVah
namespace Go.Proofs.YtnnolijagpakiaaGreatDoor
section
open Go Go.RowKit
abbrev exZ : Blk := .cell 36 [.d (.raw (.int .i64 0)), .d (.raw (.string ⟨#[]⟩)), .d (.raw (.string ⟨#[]⟩)), .d (.raw (.int .i64 0)), .d (.raw (.int .i64 0)), .d (.raw (.slice none 0 0))]
abbrev exSt (s : RS) : St := ⟨[(0, .box 901 0), (2, .box 0 0), (3, .mapd restKs restCs)], [(901, some (rdBlk s)), (0, some exZ)], (rdL s).toks⟩
def popT (s : RS) : RS := { s with td := s.td.cut (s.td.len - 1) }
theorem exSt_of {s s' : RS} (h : rdL s = rdL s') : exSt s = exSt s' := congrArg (fun L : Lent => (⟨[(0, .box 901 0), (2, .box 0 0), (3, .mapd restKs restCs)], L.blks ++ [(0, some exZ)], L.toks⟩ : St)) h
theorem RelM.pop {s : RS} {p : Pt} {ps : List Pt} {nm : List ByteArray} {ni : List Int} {su : List Ex} (h : RelM s ⟨p :: ps, nm, ni, su⟩) : RelM (popT s) ⟨ps, nm, ni, su⟩ ∧ s.td.rows.getD (s.td.len - 1) [] = encPV (pvP p) ∧ 1 ≤ s.td.len ∧ s.td.len ≤ s.td.rows.length := by
 have hl := h.td.len
 have e : encTd (p :: ps) = encTd ps ++ [encPV (pvP p)] := by simp [encTd]
 have hel : (encTd ps).length = ps.length := by simp [encTd]
 have h0 := h.td
 simp only [e] at h0 hl
 rw [List.length_append, List.length_singleton] at hl
 refine ⟨⟨?_, h.nm, h.ni, h.pt, h.at_⟩, ?_, by omega, h.td.le⟩
 ·have := h0.cut (n := s.td.len - 1) (by rw [List.length_append]; omega)
  rw [List.take_append_of_le_length (by omega), List.take_of_length_le (by omega)] at this
  exact this
 ·rw [h0.getD (by omega), List.getD_eq_getElem?_getD, List.getElem?_append_right (by omega), show s.td.len - 1 - (encTd ps).length = 0 by omega]
  rfl
theorem satC_stkOld {P : Program} {A : Base P} {σ : St} {k : Tok} (q r j st n : Nat) (e : TypeId) {ty : TypeId} {cs : List AV} {c : Code} {K : Exit → St → Prop} (hk : σ.tok q = some k) (hx : k.ex ≠ none) (hn : k.len < n) (hb : σ.blk r = some (.cell ty cs)) (hj : cs[j]? = some (.d (.raw (.slice Option.none 0 0))))
  (h : SatC P A c ((σ.setTok q (some ⟨st, e, n, some []⟩)).setBlk r (some (.cell ty (cs.set j (.stk q st n 0 0))))) K) : SatC P A c σ K := by
 refine satC_ok (fun g a w hok => ?_) h
 obtain ⟨g', h1, h2, _⟩ := hok.nilStk (q := q) (st := st) (n := n) (e := e) (.inl ⟨k, hk, hx, hn⟩)
 obtain ⟨hB, arr, c1, c2, c3⟩ := h1.blk r _ hb
 obtain ⟨hjl, hje⟩ := List.getElem?_eq_some_iff.1 hj
 refine ⟨_, (h1.write (k' := .cell ty (cs.set j (.stk q st n 0 0))) (w' := w) hb (fun _ _ => rfl) rfl (.of (Below.refl _ _)) ⟨arr, c1, by simpa using c2, fun i hi hi' => ?_⟩).1⟩
 have hi2 : i < cs.length := by simpa using hi
 rw [List.getElem_set]
 split
 ·rename_i e1; subst e1
  have h3 := c3 j hjl hi'
  rw [hje] at h3
  rw [h3.raw_eq]; exact h2
 ·exact c3 i hi2 hi'
abbrev HN : Prop := ∀ x : LTok, Con Tryz.prog 135 [avT x] (.d (.raw (.bool (nfK x))))
abbrev HM : Prop := ∀ x : LTok, Con Tryz.prog 136 [avT x] (.d (.raw (.bool (mfK x))))
abbrev HI : Prop := ∀ x : LTok, mfK x = true → Con Tryz.prog 137 [.d (.raw (.string ⟨x.text.toArray⟩))] (.tup [.d (.raw (.int .i64 (nvK x))), .d (.raw .nilIface)])
set_option maxRecDepth 100000 in
set_option maxHeartbeats 16000000 in
theorem expr_r (hN : HN) (hM : HM) (hI : HI) (s : RS) (t : List LTok) (hS : Rdy s t) :
  ConL Tryz.prog 39 [.box 901 0] (rdL s) (PostR t (pE ((restK s).length + 1) (restK s)) avE) := by
 have hR : ∃ R, (match pE ((restK s).length + 1) (restK s) with
   | (some e, r) => R = (some (⟨[], [], [], [e]⟩ : Mch), r)
   | (none, r) => R = (none, r)) ∧ MRuns [.expr] [] [] [] (restK s) R := by
  cases hp : pE ((restK s).length + 1) (restK s) with
  | mk a r =>
   cases a with
   | some e => exact ⟨_, rfl, reader_pE _ _ _ _ _ _ _ (Nat.lt_succ_self _) (by rw [hp]; exact ⟨0, .done _ _ rfl⟩)⟩
   | none => exact ⟨_, rfl, reader_pE _ _ _ _ _ _ _ (Nat.lt_succ_self _) (by rw [hp]; rfl)⟩
 obtain ⟨R, hRe, n0, hrun⟩ := hR
 have ht := hS.few'
 have hE := hS.em
 refine conL_of [901] [910, 911, 912, 913] Tryz.func39 rfl (by decide +kernel) (by simp [Tryz.ntmps39]) fun A hA => ?_
 rw [Tryz.ntmps39] at hA
 refine goC 100600 ?_
 simp only [go_sem, hA]
 refine goCall 100600 rests_c rfl (by simp only [go_sem]) (by simp only [go_sem, hA]) ?_
 simp only [go_sem, hA]
 refine goCall 100600 (only_c 5) rfl (by simp only [go_sem]) (by simp only [go_sem, hA]) ?_
 simp only [go_sem, hA]
 have htd0 := hE.td.len
 refine goCallL [901] [910, 911, 912, 913] 100600 (add_r s [pvO 5] (by simp) (by simp) hE.td.le (by simp at htd0; simp; omega)) rfl rfl rfl rfl rfl (by simp only [go_sem, hA]) (fun res L' h => ?_) (fun pv h => by cases h)
 cases h
 simp only [go_sem]
 have hrel0 : RelM s ⟨[], [], [], []⟩ := hS.relM
 obtain ⟨hrel, hrest, htoks⟩ := hrel0.add [.expr]
 simp only [List.map_cons, List.map_nil, List.append_nil] at hrel hrest htoks
 refine satC_loop [0, 2, 3] [901, 0] [910, 911, 912, 913] (fun n σ => ∃ s1 : RS, InvX s R n s1 ∧ σ = exSt s1) n0 ⟨addTd s [pvO 5], ⟨⟨[.expr], [], [], []⟩, by rw [show pvO 5 = pvP .expr from rfl, hrest]; exact hrun, hrel, trivial, ?_, htoks⟩, rfl⟩ ?_
 ·rw [show pvO 5 = pvP .expr from rfl, hrest]
  simp only [bdM, wPts, wP, List.length_nil]
  unfold restK
  rw [List.length_map, List.length_drop]; omega
 rintro n σ ⟨s1, ⟨⟨td, nm, ni, su⟩, hrun1, hrel1, hwf, hbd, htk⟩, rfl⟩
 have hle1 := hrel1.td.le
 have hfew := bd_few hbd
 have htl := hrel1.td.len
 simp only [encTd, List.length_map, List.length_reverse] at htl hfew
 have ht1 : s1.toks.length ≤ 1048576 := by rw [htk]; exact ht
 cases td with
 | nil =>
  have hm := hrun1.inv0 rfl
  have hl0 : s1.td.len = 0 := htl
  have g0 : decide ((0 : Int) < (s1.td.len : Int)) = false := decide_eq_false (by omega)
  cases hp : pE ((restK s).length + 1) (restK s) with
  | mk a r =>
   rw [hp] at hRe
   cases a with
   | none => rw [hm] at hRe; cases hRe
   | some e =>
    rw [hm] at hRe
    cases hRe
    have hpt := hrel1.pt
    have hpl := hpt.len
    have hg1 : s1.pt.rows.getD 0 [] = encE e := by
     rw [hpt.getD (by rw [hpl]; simp [encL])]; rfl
    have hpl1 : s1.pt.len = 1 := by rw [hpl]; simp [encL]
    have hple := hpt.le
    rw [encE_eq] at hg1
    refine goC 92 ?_
    simp only [go_sem, hA, exSt, g0, hg1]
    refine ⟨by omega, by omega, ?_⟩
    refine satC_stkOld 913 901 5 6 (s1.pt.ver + 1) 36 rfl (by simp) (Nat.lt_succ_self _) rfl rfl ?_
    refine goC 300 ?_
    simp only [go_sem, hA, Tryz.results39]
    exact ⟨_, rfl, rfl, { s1 with pt := ⟨s1.pt.ver + 1, 0, []⟩ }, by rw [avE_eq], ⟨htk.trans hS.toks, by have := hrel1.at_; rw [htk, hS.toks] at this; exact this, hS.few, ⟨hrel1.td, hrel1.nm, hrel1.ni, ⟨rfl, rfl⟩⟩⟩, rfl⟩
 | cons p ps =>
  obtain ⟨hrel2, hp, h1, h2⟩ := hrel1.pop
  have hround : ∀ o, StepPost (popT s1) (stepP p ⟨ps, nm, ni, su⟩ (restK (popT s1))) o → Round s R n o := fun o ho => round_of hrun1 hwf hbd htk rfl ho
  have g0 : decide ((0 : Int) < (s1.td.len : Int)) = true := decide_eq_true (by omega)
  have gw : IntKind.i64.wrap ((s1.td.len : Int) - 1) = (s1.td.len : Int) - 1 := wrapI64 (by unfold inI64; omega)
  have gt : ((s1.td.len : Int) - 1).toNat = s1.td.len - 1 := by omega
  refine goC 100600 ?_
  simp only [go_sem, hA, exSt, g0]
  refine goDr 100600 mixed ?_
  simp only [go_sem, hA, gt, Nat.zero_add, hp, encPV]
  refine ⟨by unfold inI64; omega, ⟨by omega, by omega⟩, by omega, ?_⟩
  refine ⟨by kernel_rfl, ?_⟩
  refine goDr 100600 mixed ?_
  simp only [go_sem, hA, gt, Nat.zero_add]
  have hpan : ∀ r, R = (none, r) → PostR t (pE ((restK s).length + 1) (restK s)) avE (.pan (pvA (s.toks.length - r.length))) := fun r hr => by
   cases hp : pE ((restK s).length + 1) (restK s) with
   | mk a q =>
    rw [hp, hr] at hRe
    cases a with
    | some e => cases hRe
    | none => cases hRe; rw [hS.toks]; rfl
  have hp2 := hrel2.pt.le
  have hp3 := hrel2.pt.len
  simp only [encL_length] at hp3
  have hn2 := hrel2.nm.le
  have hn3 := hrel2.nm.len
  simp only [List.length_map] at hn3
  have hi2 := hrel2.ni.le
  have hi3 := hrel2.ni.len
  simp only [List.length_map] at hi3
  simp only [List.length_cons] at hfew htl
  refine ⟨by unfold inI64; omega, ⟨by omega, by omega⟩, by kernel_rfl, ?_⟩
  cases p with
  | word w =>
   have k1 : decide ((pvP (.word w)).k = 1) = true := rfl
   simp only [go_sem, hA, k1]
   refine goCallL [901] [910, 911, 912, 913] 100600 (expect_r (popT s1) 1 (bsL w) ht1) rfl rfl rfl rfl rfl (by simp only [go_sem, hA]) (fun res L' h => ?_) (fun pv h => ?_)
   ·obtain ⟨s', rfl, n', e1, e2⟩ := (hround _ (eat_post hrel2 1 w h)).ret
    simp only [go_sem]
    exact ⟨n', e1, s', e2, rfl⟩
   ·obtain ⟨r, rfl, e2⟩ := (hround _ (eat_post hrel2 1 w h)).pan
    exact ⟨_, rfl, hpan r e2⟩
  | sign w =>
   have k1 : decide ((pvP (.sign w)).k = 1) = false := rfl
   have k2 : decide ((pvP (.sign w)).k = 2) = true := rfl
   simp only [go_sem, hA, k1, k2]
   refine goCallL [901] [910, 911, 912, 913] 100600 (expect_r (popT s1) 4 (bsL w) ht1) rfl rfl rfl rfl rfl (by simp only [go_sem, hA]) (fun res L' h => ?_) (fun pv h => ?_)
   ·obtain ⟨s', rfl, n', e1, e2⟩ := (hround _ (eat_post hrel2 4 w h)).ret
    simp only [go_sem]
    exact ⟨n', e1, s', e2, rfl⟩
   ·obtain ⟨r, rfl, e2⟩ := (hround _ (eat_post hrel2 4 w h)).pan
    exact ⟨_, rfl, hpan r e2⟩
  | name =>
   have k1 : decide ((pvP (.name)).k = 1) = false := rfl
   have k2 : decide ((pvP (.name)).k = 2) = false := rfl
   have k3 : decide ((pvP (.name)).k = 3) = true := rfl
   simp only [go_sem, hA, k1, k2, k3]
   refine goDrawnL 100600 mixed ?_
   refine dCall 6 [6, 7, 8, 9, 10, 11] [901] [910, 911, 912, 913] (name_r nfK hN (popT s1) ht1) [] rfl rfl rfl (by kernel_rfl) rfl (by simp only [go_sem]) (by kernel_rfl) (by simp only [go_sem, hA]) ?_
   simp only [go_sem, hA]
   refine ⟨by kernel_rfl, fun y L' h => ?_, fun pv h => ?_⟩
   rotate_left
   ·rcases keep_name hrel2 h with ⟨x, e, _⟩ | ⟨v, e, h3⟩
    ·cases e
    ·cases e
     obtain ⟨r, rfl, e2⟩ := (hround _ h3).pan
     exact ⟨_, rfl, hpan r e2⟩
   rcases keep_name hrel2 h with ⟨x, e, h3⟩ | ⟨v, e, _⟩
   rotate_left
   ·cases e
   cases e
   obtain ⟨s', hs', n', e1, e2⟩ := (hround _ h3).ret
   refine dFin ?_
   simp only [go_sem, hA]
   exact ⟨⟨encS_fit [bT x], hn2, (by show s1.nm.len ≤ _; have : s1.nm.len = nm.length := hn3; omega)⟩, by kernel_rfl, rfl, n', e1, s', e2, exSt_of hs'⟩
  | number =>
   have k1 : decide ((pvP (.number)).k = 1) = false := rfl
   have k2 : decide ((pvP (.number)).k = 2) = false := rfl
   have k3 : decide ((pvP (.number)).k = 3) = false := rfl
   have k4 : decide ((pvP (.number)).k = 4) = true := rfl
   simp only [go_sem, hA, k1, k2, k3, k4]
   refine goDrawnL 100600 mixed ?_
   refine dCall 6 [6, 7, 8, 9, 10, 11] [901] [910, 911, 912, 913] (number_r mfK nvK hM hI (popT s1) ht1) [] rfl rfl rfl (by kernel_rfl) rfl (by simp only [go_sem]) (by kernel_rfl) (by simp only [go_sem, hA]) ?_
   simp only [go_sem, hA]
   refine ⟨by kernel_rfl, fun y L' h => ?_, fun pv h => ?_⟩
   rotate_left
   ·rcases keep_num hrel2 h with ⟨x, e, _⟩ | ⟨v, e, h3⟩
    ·cases e
    ·cases e
     obtain ⟨r, rfl, e2⟩ := (hround _ h3).pan
     exact ⟨_, rfl, hpan r e2⟩
   rcases keep_num hrel2 h with ⟨x, e, h3⟩ | ⟨v, e, _⟩
   rotate_left
   ·cases e
   cases e
   obtain ⟨s', hs', n', e1, e2⟩ := (hround _ h3).ret
   refine dFin ?_
   simp only [go_sem, hA]
   exact ⟨⟨(by intro r hr; simp only [List.mem_singleton] at hr; subst hr; exact ⟨rfl, fun x hx => by simp only [List.mem_singleton] at hx; subst hx; rfl⟩), hi2, (by show s1.ni.len ≤ _; have : s1.ni.len = ni.length := hi3; omega)⟩, by kernel_rfl, rfl, n', e1, s', e2, exSt_of hs'⟩
  | expr =>
   have k1 : decide ((pvP (.expr)).k = 1) = false := rfl
   have k2 : decide ((pvP (.expr)).k = 2) = false := rfl
   have k3 : decide ((pvP (.expr)).k = 3) = false := rfl
   have k4 : decide ((pvP (.expr)).k = 4) = false := rfl
   have k5 : decide ((pvP (.expr)).k = 5) = true := rfl
   simp only [go_sem, hA, k1, k2, k3, k4, k5]
   refine goCallL [901] [910, 911, 912, 913] 100600 (start_r nfK mfK nvK hN hM hI (popT s1) ⟨hrel2.td.le, by show s1.td.len - 1 + 20 ≤ _; omega⟩ ⟨hp2, by omega⟩ ht1) rfl rfl rfl rfl rfl (by simp only [go_sem, hA]) (fun res L' h => ?_) (fun pv h => ?_)
   ·obtain ⟨s', rfl, n', e1, e2⟩ := (hround _ (start_post hrel2 h)).ret
    simp only [go_sem]
    exact ⟨n', e1, s', e2, rfl⟩
   ·obtain ⟨r, rfl, e2⟩ := (hround _ (start_post hrel2 h)).pan
    exact ⟨_, rfl, hpan r e2⟩
  | tail =>
   have k1 : decide ((pvP (.tail)).k = 1) = false := rfl
   have k2 : decide ((pvP (.tail)).k = 2) = false := rfl
   have k3 : decide ((pvP (.tail)).k = 3) = false := rfl
   have k4 : decide ((pvP (.tail)).k = 4) = false := rfl
   have k5 : decide ((pvP (.tail)).k = 5) = false := rfl
   have k6 : decide ((pvP (.tail)).k = 6) = true := rfl
   simp only [go_sem, hA, k1, k2, k3, k4, k5, k6]
   refine goCallL [901] [910, 911, 912, 913] 100600 (tail_r (popT s1) ⟨hrel2.td.le, by show s1.td.len - 1 + 20 ≤ _; omega⟩ ht1) rfl rfl rfl rfl rfl (by simp only [go_sem, hA]) (fun res L' h => ?_) (fun pv h => ?_)
   ·obtain ⟨s', rfl, n', e1, e2⟩ := (hround _ (tail_post hrel2 h)).ret
    simp only [go_sem]
    exact ⟨n', e1, s', e2, rfl⟩
   ·obtain ⟨r, rfl, e2⟩ := (hround _ (tail_post hrel2 h)).pan
    exact ⟨_, rfl, hpan r e2⟩
  | join k op a b c =>
   have k1 : decide ((pvP (.join k op a b c)).k = 1) = false := rfl
   have k2 : decide ((pvP (.join k op a b c)).k = 2) = false := rfl
   have k3 : decide ((pvP (.join k op a b c)).k = 3) = false := rfl
   have k4 : decide ((pvP (.join k op a b c)).k = 4) = false := rfl
   have k5 : decide ((pvP (.join k op a b c)).k = 5) = false := rfl
   have k6 : decide ((pvP (.join k op a b c)).k = 6) = false := rfl
   simp only [go_sem, hA, k1, k2, k3, k4, k5, k6]
   obtain ⟨hj, ha, hb, hc, hw⟩ := hwf
   refine goCallL [901] [910, 911, 912, 913] 100600 (build_j (s := popT s1) (k := k) (op := op) (m := ⟨ps, nm, ni, su⟩) hj hrel2 ha hb hc (by show nm.length + ni.length + su.length ≤ _; omega)) rfl rfl rfl rfl rfl (by simp only [go_sem, hA]) (fun res L' h => ?_) (fun pv h => by cases h)
   cases h
   obtain ⟨s', hs', n', e1, e2⟩ := (hround _ (join_post hrel2)).ret
   simp only [go_sem]
   exact ⟨n', e1, s', e2, exSt_of hs'⟩
end
section
open Go Go.RowKit
theorem con_t1 {P : Program} {f : FuncId} {k p : Int} {s : ByteArray} {r : Value} (he : Enters P f) (h : ∀ (w : World), Calls P f #[.agg #[.int .i64 k, .string s, .int .i64 p]] w fun e w' => e = .returned r ∧ Below w.heap.size w w') : Con P f [.agg [.d (.raw (.int .i64 k)), .d (.raw (.string s)), .d (.raw (.int .i64 p))]] (.d (.raw r)) := by
 refine ⟨he, rfl, fun F w vs hF _ hl hv => ?_⟩
 match vs, hl with
 | [v], _ =>
  have h0 := hv 0 (by simp) (by simp)
  simp only [List.getElem_cons_zero] at h0
  unfold HasC at h0
  obtain ⟨us, rfl, hul, hus⟩ := h0.agg_eq
  match us, hul with
  | [a, b, c], _ =>
   have e1 := (hus 0 (by simp) (by simp)).raw_eq
   have e2 := (hus 1 (by simp) (by simp)).raw_eq
   have e3 := (hus 2 (by simp) (by simp)).raw_eq
   simp only [List.getElem_cons_zero, List.getElem_cons_succ] at e1 e2 e3
   subst e1 e2 e3
   exact (h w).mono fun e w' h' => ⟨r, h'.1, .d (.raw _), h'.2⟩
theorem check_c (k p : Int) (s : ByteArray) : Con Tryz.prog 108 [.agg [.d (.raw (.int .i64 k)), .d (.raw (.string s)), .d (.raw (.int .i64 p))]] (.d (.raw (.int .i64 (checkL k s.data.toList p)))) := con_t1 ⟨_, Tryz.func108, by decide +kernel, rfl⟩ fun w => check_any k p s w
theorem number_check (l : List UInt8) : checkL 3 l 0 = 0 ↔ numberL l = true := by
 cases h : numberL l with
 | true => exact ⟨fun _ => rfl, fun _ => checkL_ok (by omega) (by omega) ((textL_3 _).trans h) (by omega)⟩
 | false =>
  rw [checkL_text (by omega) (by omega) ((textL_3 _).trans h)]
  exact ⟨fun h => (by cases h), fun h => (by cases h)⟩
theorem name_check (n : ByteArray) : checkX (.mk 3 n ⟨#[]⟩ 0 0 []) = 0 ↔ nameB n = true := by
 have hs : shapeK 3 = some (1, 0, 0) := rfl
 have ha : argOk 1 0 0 n ⟨#[]⟩ 0 0 0 = true := rfl
 rw [checkX_good (by simp [nodesE, nodesL]) (by simp [depthE, depthL]), checkE]
 show (if checkN 3 n ⟨#[]⟩ 0 0 0 = 0 then checkEs [] else checkN 3 n ⟨#[]⟩ 0 0 0) = 0 ↔ _
 cases h : nameB n with
 | true =>
  have hn : namesErr 3 n ⟨#[]⟩ (decide (1 ≤ 1)) (decide (2 ≤ 1)) = 0 := by simp [namesErr, namedB, okName, h]
  rw [checkN_range hs ha hn]
  exact ⟨fun _ => rfl, fun _ => rfl⟩
 | false =>
  have hn : namesErr 3 n ⟨#[]⟩ (decide (1 ≤ 1)) (decide (2 ≤ 1)) = 6 := by simp [namesErr, namedB, okName, h]
  rw [checkN_names hs ha (by rw [hn]; decide), hn]
  exact ⟨fun h => absurd h (by decide), fun h => (by cases h)⟩
theorem decFrom_digits : ∀ (l : List UInt8) (a : Nat), l.all digitB = true → Lib.decFrom a l = some (l.foldl (fun a c => 10 * a + (c.toNat - 48)) a)
 | [], a, _ => rfl
 | c :: l, a, h => by
  simp only [List.all_cons, Bool.and_eq_true] at h
  have hd : Lib.digitVal c = some (c.toNat - 48) := by
   have h1 := h.1
   unfold digitB isDigit at h1
   simp only [Bool.and_eq_true, decide_eq_true_eq] at h1
   unfold Lib.digitVal
   rw [if_pos (by omega)]
  rw [Lib.decFrom, hd]
  show Lib.decFrom (a * 10 + (c.toNat - 48)) l = _
  rw [decFrom_digits l _ h.2, List.foldl_cons, Nat.mul_comm a 10]
theorem core_atoi {l : List UInt8} (h : numCore l = true) : Lib.decNat l = some (valD l) ∧ l.length ≤ 9 := by
 unfold numCore at h
 simp only [Bool.and_eq_true, decide_eq_true_eq, Bool.not_eq_true'] at h
 obtain ⟨⟨⟨h1, h0⟩, h2⟩, h3⟩ := h
 refine ⟨?_, h0⟩
 unfold Lib.decNat
 cases l with
 | nil => simp at h1
 | cons c l =>
  rw [if_neg (by simp), decFrom_digits _ _ h3]; rfl
theorem number_atoi {l : List UInt8} (h : numberL l = true) : Lib.atoi l = some (numV l) ∧ l.length ≤ 10 := by
 unfold numberL at h
 split at h
 ·rename_i hp
  simp only [Bool.and_eq_true] at h
  obtain ⟨h1, h2⟩ := core_atoi h.1
  cases l with
  | nil => simp [Lib.hasPrefix] at hp
  | cons m l =>
   have hm : m = 45 := by
    unfold Lib.hasPrefix at hp
    simp only [List.isPrefixOf, Bool.and_true, beq_iff_eq] at hp
    exact hp.symm
   subst hm
   rw [List.tail_cons] at h1 h2
   refine ⟨?_, by rw [List.length_cons]; omega⟩
   unfold numV
   show (Lib.decNat l).map (fun m : Nat => -(m : Int)) = _
   rw [h1, List.head?_cons, if_pos rfl, List.tail_cons]; rfl
 ·rename_i hp
  obtain ⟨h1, h2⟩ := core_atoi h
  obtain ⟨c, q, rfl, e2, e3⟩ := core_head h
  have hd : 48 ≤ c.toNat := by
   unfold digitB isDigit at e2
   simp only [Bool.and_eq_true, decide_eq_true_eq] at e2
   omega
  have h45 : ¬ (c == 45) = true := fun e => by
   rw [beq_iff_eq.1 e] at hd
   exact absurd hd (by decide)
  have h43 : ¬ (c == 43) = true := fun e => by
   rw [beq_iff_eq.1 e] at hd
   exact absurd hd (by decide)
  refine ⟨?_, by omega⟩
  unfold numV
  show (if (c == 45) = true then (Lib.decNat q).map fun (m : Nat) => -(m : Int) else if (c == 43) = true then (Lib.decNat q).map fun (m : Nat) => (m : Int) else (Lib.decNat (c :: q)).map fun (m : Nat) => (m : Int)) = _
  rw [if_neg h45, if_neg h43, h1, List.head?_cons, if_neg (fun e => h45 (by cases e; rfl))]; rfl
set_option maxRecDepth 100000 in
set_option maxHeartbeats 4000000 in
theorem hN : HN := fun x => by
 refine con_of Tryz.func135 rfl (by decide +kernel) rfl rfl (by simp [Tryz.ntmps135]) fun A hA => ?_
 rw [Tryz.ntmps135] at hA
 refine goC 400 ?_
 by_cases hk : x.kind = 1
 ·have g1 : decide (x.kind = 1) = true := decide_eq_true hk
  have e : nfK x = decide (checkX (.mk 3 ⟨x.text.toArray⟩ ⟨#[]⟩ 0 0 []) = 0) := by
   unfold nfK nameT kt
   rw [g1, Bool.true_and, Bool.eq_iff_iff, decide_eq_true_eq, name_check]
  rw [e]
  simp only [go_sem, hA, g1]
  refine goCall 400 (sCheckExpr_c (.mk 3 ⟨x.text.toArray⟩ ⟨#[]⟩ 0 0 []) (by simp [nodesE, nodesL])) rfl (by simp only [go_sem, avE_eq, Ex.kind, Ex.name, Ex.more, Ex.int, Ex.den, Ex.sub, encL]) (by simp only [go_sem, hA]) ?_
  simp only [go_sem, hA, Tryz.results135]
 ·have g1 : decide (x.kind = 1) = false := decide_eq_false hk
  have e : nfK x = false := by unfold nfK nameT kt; rw [g1, Bool.false_and]
  rw [e]
  simp only [go_sem, hA, g1, undef, Tryz.results135]
set_option maxRecDepth 100000 in
set_option maxHeartbeats 4000000 in
theorem hM : HM := fun x => by
 refine con_of Tryz.func136 rfl (by decide +kernel) rfl rfl (by simp [Tryz.ntmps136]) fun A hA => ?_
 rw [Tryz.ntmps136] at hA
 refine goC 400 ?_
 by_cases hk : x.kind = 3
 ·have g1 : decide (x.kind = 3) = true := decide_eq_true hk
  have e : mfK x = decide (checkL 3 x.text 0 = 0) := by
   unfold mfK numT kt
   rw [g1, Bool.true_and, Bool.eq_iff_iff, decide_eq_true_eq, number_check]
  rw [e]
  simp only [go_sem, hA, g1]
  refine goCall 400 (check_c x.kind 0 ⟨x.text.toArray⟩) rfl (by simp only [go_sem]) (by simp only [go_sem, hA]) ?_
  simp only [go_sem, hA, hk, Tryz.results136]
 ·have g1 : decide (x.kind = 3) = false := decide_eq_false hk
  have e : mfK x = false := by unfold mfK numT kt; rw [g1, Bool.false_and]
  rw [e]
  simp only [go_sem, hA, g1, undef, Tryz.results136]
theorem hI : HI := fun x hx => by
 have hn : numberL x.text = true := by
  unfold mfK numT kt at hx
  simp only [Bool.and_eq_true] at hx
  exact hx.2
 obtain ⟨h1, h2⟩ := number_atoi hn
 refine ⟨⟨_, Tryz.func137, by decide +kernel, rfl⟩, rfl, fun F w vs hF _ hl hv => ?_⟩
 match vs, hl with
 | [v], _ =>
  have h0 := hv 0 (by simp) (by simp)
  simp only [List.getElem_cons_zero] at h0
  unfold HasC at h0
  rw [h0.raw_eq]
  refine (Tryz.strconv_Atoi ⟨x.text.toArray⟩ (numV x.text) (by show x.text.toArray.size ≤ 18; simp; omega) h1 w).mono fun e w' h' => ?_
  obtain ⟨he, t, rfl⟩ := h'
  refine ⟨_, he, ?_, Joins.below_bytesWorld _ _ _ _ (Nat.le_refl _)⟩
  refine .tup _ [_, _] rfl fun i hi hv => ?_
  match i, hi with
  | 0, _ => exact .d (.raw _)
  | 1, _ => exact .d (.raw _)
end
section
open Go.RowKit
set_option maxHeartbeats 400000 in
theorem rrun_any (s : ByteArray) (i : Nat) (w : World) (hs : s.size ≤ maxLen) (hi : i ≤ s.size) :
  Calls Tryz.prog 119 #[.string s, .int .i64 i] w fun e w' => e = .returned (.int .i64 ((i + runL innerB (s.data.toList.drop i) : Nat) : Int)) ∧ w = w' := by
 unfold maxLen at hs
 go_enter Tryz.func119, Tryz.ntmps119
 go_wp2_with fail
 go_loop [1] (fun v => ∃ k : Nat, i + k ≤ s.size ∧ v = .int .i64 ((i + k : Nat) : Int) ∧ runTo innerB (s.data.toList.drop i) k) (fun v => s.size - (intOf v).toNat)
 case atStart => exact ⟨0, hi, rfl, runTo_zero _ _⟩
 case round =>
  obtain ⟨k, hk, rfl, hto⟩ := hrel
  by_cases hlt : i + k < s.size
  ·have HG : Hid (∀ h, (s.data.toList.drop i)[k]'h = s[i + k]) := Lib.hid (fun h => by rw [List.getElem_drop]; rfl)
   cases hr : isRunning ((s[i + k]'hlt).toNat : Int)
   ·have Hf := Lib.hid (runL_eq (p := innerB) (l := s.data.toList.drop i) (k := k) (by simp; omega) hto (fun h => by rw [HG.out h]; exact hr))
    go_wp2_with (first | (go_at_call 162; refine (rinner_any _ _).mono ?_; rintro e w' ⟨rfl, rfl⟩))
    go_ret
    exact ⟨by rw [Hf.out]; rfl, rfl⟩
   ·go_wp2_with (first | (go_at_call 162; refine (rinner_any _ _).mono ?_; rintro e w' ⟨rfl, rfl⟩))
    go_round
    case rel =>
     refine ⟨k + 1, by omega, by go_num, fun j hj hlt' => ?_⟩
     rcases Nat.lt_or_ge j k with hh | hh
     ·exact hto j hj hh
     ·obtain rfl : j = k := by omega
      rw [HG.out hj]; exact hr
    case measure => simp [intOf]; omega
  ·have Hf := Lib.hid (runL_eq (p := innerB) (l := s.data.toList.drop i) (k := k) (by simp; omega) hto (fun h => absurd h (by simp; omega)))
   go_wp2_with fail
   go_ret
   exact ⟨by rw [Hf.out]; rfl, rfl⟩
theorem prefix45 {s : ByteArray} (h0 : 0 < s.size) (h : (((s[0]'h0).toNat : Int) == 45) = true) : Lib.hasPrefix s.data.toList [45] = true := by
 have h1 := drop_get s 0 h0
 rw [List.drop_zero] at h1
 rw [h1]
 have : s[0] = 45 := by
  simp at h
  exact UInt8.toNat_inj.1 (by simp; omega)
 simp [Lib.hasPrefix, this]
theorem prefix45' {s : ByteArray} (h0 : 0 < s.size) (h : (((s[0]'h0).toNat : Int) == 45) = false) : Lib.hasPrefix s.data.toList [45] = false := by
 have h1 := drop_get s 0 h0
 rw [List.drop_zero] at h1
 rw [h1]
 have : s[0] ≠ 45 := fun e => by rw [e] at h; simp at h
 have h2 : ¬ (45 : UInt8) = s[0] := fun e => this e.symm
 unfold Lib.hasPrefix
 rw [List.isPrefixOf, beq_eq_false_iff_ne.2 h2]; rfl
-- with a sign
theorem rnumber_neg_zero (s : ByteArray) (w : World) (h1 : 1 < s.size) (hm : (((s[0]'(by omega)).toNat : Int) == 45) = true) (hz : ((((s.extract 1 s.size)[0]'(by simp; omega)).toNat : Int) == 48) = true) :
  Calls Tryz.prog 165 #[.string s] w fun e w' => e = .returned (.bool (numberL s.data.toList)) ∧ w = w' := by
 have hg : decide (1 < (s.size : Int)) = true := by simp; omega
 have hl0 : 0 < s.size - 1 := by omega
 have hzi : (0 : Int) < s.size := by omega
 have HN : Hid (numberL s.data.toList = false) := Lib.hid (by
  rw [numberL_neg (prefix45 (by omega) hm), tail_extract, head_get (by simp; omega), byte48 hz]
  simp)
 go_enter Tryz.func165, Tryz.ntmps165
 go_wp2_with fail
 go_ret
 exact ⟨by rw [HN.out]; rfl, rfl⟩
theorem rnumber_neg_long (s : ByteArray) (w : World) (h1 : 10 < s.size) (hm : (((s[0]'(by omega)).toNat : Int) == 45) = true) (hz : ((((s.extract 1 s.size)[0]'(by simp; omega)).toNat : Int) == 48) = false) :
  Calls Tryz.prog 165 #[.string s] w fun e w' => e = .returned (.bool (numberL s.data.toList)) ∧ w = w' := by
 have hg : decide (1 < (s.size : Int)) = true := by simp; omega
 have hl0 : 0 < s.size - 1 := by omega
 have hzi : (0 : Int) < s.size := by omega
 have hlt1 : decide (((s.size - 1 : Nat) : Int) < 1) = false := by simp; omega
 have hgt : decide (9 < ((s.size - 1 : Nat) : Int)) = true := by simp; omega
 have HN : Hid (numberL s.data.toList = false) := Lib.hid (by
  rw [numberL_neg (prefix45 (by omega) hm), numCore_long (by simp; omega)]; rfl)
 go_enter Tryz.func165, Tryz.ntmps165
 go_wp2_with fail
 go_ret
 exact ⟨by rw [HN.out]; rfl, rfl⟩
set_option maxHeartbeats 400000 in
theorem rnumber_neg_more (s : ByteArray) (w : World) (h1 : 1 < s.size) (h9 : s.size ≤ 10) (hm : (((s[0]'(by omega)).toNat : Int) == 45) = true) (hz : ((((s.extract 1 s.size)[0]'(by simp; omega)).toNat : Int) == 48) = false) :
  Calls Tryz.prog 165 #[.string s] w fun e w' => e = .returned (.bool (numberL s.data.toList)) ∧ w = w' := by
 have hg : decide (1 < (s.size : Int)) = true := by simp; omega
 have hl0 : 0 < s.size - 1 := by omega
 have hzi : (0 : Int) < s.size := by omega
 have hlt1 : decide (((s.size - 1 : Nat) : Int) < 1) = false := by simp; omega
 have hgt : decide (9 < ((s.size - 1 : Nat) : Int)) = false := by simp; omega
 have HE : Hid (numberL s.data.toList = numCore (s.extract 1 s.size).data.toList) := Lib.hid (by
  rw [numberL_neg (prefix45 (by omega) hm), tail_extract, head_get (by simp; omega), byte48' hz]
  simp)
 have HNf : Hid (∀ j (hj : j < (s.extract 1 s.size).data.toList.length), digitB ((s.extract 1 s.size).data.toList[j]) = false → numberL s.data.toList = false) := Lib.hid (fun j hj hd => by rw [HE.out, numCore_no hj hd])
 have HNt : Hid ((∀ j (hj : j < (s.extract 1 s.size).data.toList.length), digitB ((s.extract 1 s.size).data.toList[j]) = true) → numberL s.data.toList = true) := Lib.hid (fun hd => by
  rw [HE.out, numCore_yes (by simp; omega) (by simp; omega) (by rw [head_get (by simp; omega), byte48' hz]; rfl) hd])
 have HSZ : Hid ((s.extract 1 s.size).size = s.size - 1) := Lib.hid (by simp)
 by_cases hone : 1 < s.size - 1
 ·have hg1 : decide (1 < ((s.size - 1 : Nat) : Int)) = true := by simp; omega
  go_enter Tryz.func165, Tryz.ntmps165
  go_wp2_with fail
  go_loop [3] (fun i => ∃ k : Nat, k ≤ (s.extract 1 s.size).size ∧ i = .int .i64 k ∧ runTo digitB (s.extract 1 s.size).data.toList k) (fun i => (s.extract 1 s.size).size - (intOf i).toNat)
  case atStart => exact ⟨0, Nat.zero_le _, rfl, runTo_zero _ _⟩
  case round =>
   obtain ⟨k, hk, rfl, hto⟩ := hrel
   by_cases hlt : k < (s.extract 1 s.size).size
   ·have hlt2 : k < s.size - 1 :=  by have e := HSZ.out; omega
    cases hd : isDigit (((s.extract 1 s.size)[k]'hlt).toNat : Int)
    ·have HF := Lib.hid (HNf.out k (by simpa using hlt) hd)
     go_wp2_with (first | (go_at_call 121; refine (rdigit_no _ _ hd).mono ?_; rintro e w' ⟨rfl, rfl⟩))
     go_ret
     exact ⟨by rw [HF.out]; rfl, rfl⟩
    ·go_wp2_with (first | (go_at_call 121; refine (rdigit_yes _ _ hd).mono ?_; rintro e w' ⟨rfl, rfl⟩))
     go_round
     case rel => exact ⟨k + 1, by omega, by go_num, runTo_step hlt hto hd⟩
     case measure => have e := HSZ.out; simp [intOf]; omega
   ·have hge2 : s.size - 1 ≤ k := by have e := HSZ.out; omega
    have HF := Lib.hid (HNt.out (fun j hj => hto j hj (by have e := HSZ.out; simp at hj; omega)))
    go_wp2_with fail
    go_ret
    exact ⟨by rw [HF.out]; rfl, rfl⟩
 ·have hg1 : decide (1 < ((s.size - 1 : Nat) : Int)) = false := by simp; omega
  go_enter Tryz.func165, Tryz.ntmps165
  go_wp2_with fail
  go_loop [3] (fun i => ∃ k : Nat, k ≤ (s.extract 1 s.size).size ∧ i = .int .i64 k ∧ runTo digitB (s.extract 1 s.size).data.toList k) (fun i => (s.extract 1 s.size).size - (intOf i).toNat)
  case atStart => exact ⟨0, Nat.zero_le _, rfl, runTo_zero _ _⟩
  case round =>
   obtain ⟨k, hk, rfl, hto⟩ := hrel
   by_cases hlt : k < (s.extract 1 s.size).size
   ·have hlt2 : k < s.size - 1 :=  by have e := HSZ.out; omega
    cases hd : isDigit (((s.extract 1 s.size)[k]'hlt).toNat : Int)
    ·have HF := Lib.hid (HNf.out k (by simpa using hlt) hd)
     go_wp2_with (first | (go_at_call 121; refine (rdigit_no _ _ hd).mono ?_; rintro e w' ⟨rfl, rfl⟩))
     go_ret
     exact ⟨by rw [HF.out]; rfl, rfl⟩
    ·go_wp2_with (first | (go_at_call 121; refine (rdigit_yes _ _ hd).mono ?_; rintro e w' ⟨rfl, rfl⟩))
     go_round
     case rel => exact ⟨k + 1, by omega, by go_num, runTo_step hlt hto hd⟩
     case measure => have e := HSZ.out; simp [intOf]; omega
   ·have hge2 : s.size - 1 ≤ k := by have e := HSZ.out; omega
    have HF := Lib.hid (HNt.out (fun j hj => hto j hj (by have e := HSZ.out; simp at hj; omega)))
    go_wp2_with fail
    go_ret
    exact ⟨by rw [HF.out]; rfl, rfl⟩
-- without a sign
theorem rnumber_nil (s : ByteArray) (w : World) (h : s.size = 0) :
  Calls Tryz.prog 165 #[.string s] w fun e w' => e = .returned (.bool (numberL s.data.toList)) ∧ w = w' := by
 have hg : decide (1 < (s.size : Int)) = false := by simp; omega
 have hlt1 : decide ((s.size : Int) < 1) = true := by simp; omega
 have HN : Hid (numberL s.data.toList = false) := Lib.hid (by
  have : s.data.toList = [] := List.eq_nil_of_length_eq_zero (by simpa using h)
  rw [this]; rfl)
 clear h
 go_enter Tryz.func165, Tryz.ntmps165
 go_wp2_with fail
 go_ret
 exact ⟨by rw [HN.out]; rfl, rfl⟩
theorem rnumber_long (s : ByteArray) (w : World) (h : 9 < s.size) (hm : (((s[0]'(by omega)).toNat : Int) == 45) = false) :
  Calls Tryz.prog 165 #[.string s] w fun e w' => e = .returned (.bool (numberL s.data.toList)) ∧ w = w' := by
 have hg : decide (1 < (s.size : Int)) = true := by simp; omega
 have hlt1 : decide ((s.size : Int) < 1) = false := by simp; omega
 have hgt : decide (9 < (s.size : Int)) = true := by simp; omega
 have hzi : (0 : Int) < s.size := by omega
 have HN : Hid (numberL s.data.toList = false) := Lib.hid (by rw [numberL_pos (prefix45' (by omega) hm), numCore_long (by simp; omega)])
 go_enter Tryz.func165, Tryz.ntmps165
 go_wp2_with fail
 go_ret
 exact ⟨by rw [HN.out]; rfl, rfl⟩
theorem rnumber_zero (s : ByteArray) (w : World) (h : 1 < s.size) (h9 : s.size ≤ 9) (hm : (((s[0]'(by omega)).toNat : Int) == 45) = false) (hz : (((s[0]'(by omega)).toNat : Int) == 48) = true) :
  Calls Tryz.prog 165 #[.string s] w fun e w' => e = .returned (.bool (numberL s.data.toList)) ∧ w = w' := by
 have hg : decide (1 < (s.size : Int)) = true := by simp; omega
 have hlt1 : decide ((s.size : Int) < 1) = false := by simp; omega
 have hgt : decide (9 < (s.size : Int)) = false := by simp; omega
 have hzi : (0 : Int) < s.size := by omega
 have HN : Hid (numberL s.data.toList = false) := Lib.hid (by
  rw [numberL_pos (prefix45' (by omega) hm), numCore_zero]
  rw [head_get (by omega), byte48 hz]
  simp [h])
 go_enter Tryz.func165, Tryz.ntmps165
 go_wp2_with fail
 go_ret
 exact ⟨by rw [HN.out]; rfl, rfl⟩
set_option maxHeartbeats 400000 in
theorem rnumber_more (t : ByteArray) (w : World) (h : 1 < t.size) (h9 : t.size ≤ 9) (hm : (((t[0]'(by omega)).toNat : Int) == 45) = false) (hz : (((t[0]'(by omega)).toNat : Int) == 48) = false) :
  Calls Tryz.prog 165 #[.string t] w fun e w' => e = .returned (.bool (numberL t.data.toList)) ∧ w = w' := by
 have hg : decide (1 < (t.size : Int)) = true := by simp; omega
 have hlt1 : decide ((t.size : Int) < 1) = false := by simp; omega
 have hgt : decide (9 < (t.size : Int)) = false := by simp; omega
 have hzi : (0 : Int) < t.size := by omega
 have HE : Hid (numberL t.data.toList = numCore t.data.toList) := Lib.hid (numberL_pos (prefix45' (by omega) hm))
 have HNf : Hid (∀ j (hj : j < t.data.toList.length), digitB (t.data.toList[j]) = false → numberL t.data.toList = false) := Lib.hid (fun j hj hd => by rw [HE.out, numCore_no hj hd])
 have HNt : Hid ((∀ j (hj : j < t.data.toList.length), digitB (t.data.toList[j]) = true) → numberL t.data.toList = true) := Lib.hid (fun hd => by
  rw [HE.out, numCore_yes (by simp; omega) (by simp; omega) (by rw [head_get (by omega), byte48' hz]; rfl) hd])
 have HSZ : Hid (t.size = t.size) := Lib.hid rfl
 go_enter Tryz.func165, Tryz.ntmps165
 go_wp2_with fail
 go_loop [3] (fun i => ∃ k : Nat, k ≤ t.size ∧ i = .int .i64 k ∧ runTo digitB t.data.toList k) (fun i => t.size - (intOf i).toNat)
 case atStart => exact ⟨0, Nat.zero_le _, rfl, runTo_zero _ _⟩
 case round =>
  obtain ⟨k, hk, rfl, hto⟩ := hrel
  by_cases hlt : k < t.size
  ·have hlt2 : k < t.size :=  by have e := HSZ.out; omega
   cases hd : isDigit ((t[k]'hlt).toNat : Int)
   ·have HF := Lib.hid (HNf.out k (by simpa using hlt) hd)
    go_wp2_with (first | (go_at_call 121; refine (rdigit_no _ _ hd).mono ?_; rintro e w' ⟨rfl, rfl⟩))
    go_ret
    exact ⟨by rw [HF.out]; rfl, rfl⟩
   ·go_wp2_with (first | (go_at_call 121; refine (rdigit_yes _ _ hd).mono ?_; rintro e w' ⟨rfl, rfl⟩))
    go_round
    case rel => exact ⟨k + 1, by omega, by go_num, runTo_step hlt hto hd⟩
    case measure => have e := HSZ.out; simp [intOf]; omega
  ·have hge2 : t.size ≤ k := by have e := HSZ.out; omega
   have HF := Lib.hid (HNt.out (fun j hj => hto j hj (by have e := HSZ.out; simp at hj; omega)))
   go_wp2_with fail
   go_ret
   exact ⟨by rw [HF.out]; rfl, rfl⟩
set_option maxHeartbeats 400000 in
theorem rnumber_one (t : ByteArray) (w : World) (h : 1 ≤ t.size) (h1 : t.size ≤ 1) :
  Calls Tryz.prog 165 #[.string t] w fun e w' => e = .returned (.bool (numberL t.data.toList)) ∧ w = w' := by
 have hg : decide (1 < (t.size : Int)) = false := by simp; omega
 have hlt1 : decide ((t.size : Int) < 1) = false := by simp; omega
 have hgt : decide (9 < (t.size : Int)) = false := by simp; omega
 have HNf : Hid (∀ j (hj : j < t.data.toList.length), digitB (t.data.toList[j]) = false → numberL t.data.toList = false) := Lib.hid (fun j hj hd => by
  cases hm : (((t[0]'(by omega)).toNat : Int) == 45)
  ·rw [numberL_pos (prefix45' (by omega) hm), numCore_no hj hd]
  ·rw [numberL_neg (prefix45 (by omega) hm), numCore_nil (by simp; omega)]; rfl)
 have HNt : Hid ((∀ j (hj : j < t.data.toList.length), digitB (t.data.toList[j]) = true) → numberL t.data.toList = true) := Lib.hid (fun hd => by
  cases hm : (((t[0]'(by omega)).toNat : Int) == 45)
  ·rw [numberL_pos (prefix45' (by omega) hm), numCore_yes (by simp; omega) (by simp; omega) (by rw [Bool.and_eq_false_iff]; right; simp; omega) hd]
  ·have h3 := hd 0 (by simp; omega)
   rw [toList_get t 0 (by omega)] at h3
   simp [digitB, isDigit] at h3 hm
   omega)
 have HSZ : Hid (t.size = t.size) := Lib.hid rfl
 go_enter Tryz.func165, Tryz.ntmps165
 go_wp2_with fail
 go_loop [3] (fun i => ∃ k : Nat, k ≤ t.size ∧ i = .int .i64 k ∧ runTo digitB t.data.toList k) (fun i => t.size - (intOf i).toNat)
 case atStart => exact ⟨0, Nat.zero_le _, rfl, runTo_zero _ _⟩
 case round =>
  obtain ⟨k, hk, rfl, hto⟩ := hrel
  by_cases hlt : k < t.size
  ·have hlt2 : k < t.size :=  by have e := HSZ.out; omega
   cases hd : isDigit ((t[k]'hlt).toNat : Int)
   ·have HF := Lib.hid (HNf.out k (by simpa using hlt) hd)
    go_wp2_with (first | (go_at_call 121; refine (rdigit_no _ _ hd).mono ?_; rintro e w' ⟨rfl, rfl⟩))
    go_ret
    exact ⟨by rw [HF.out]; rfl, rfl⟩
   ·go_wp2_with (first | (go_at_call 121; refine (rdigit_yes _ _ hd).mono ?_; rintro e w' ⟨rfl, rfl⟩))
    go_round
    case rel => exact ⟨k + 1, by omega, by go_num, runTo_step hlt hto hd⟩
    case measure => have e := HSZ.out; simp [intOf]; omega
  ·have hge2 : t.size ≤ k := by have e := HSZ.out; omega
   have HF := Lib.hid (HNt.out (fun j hj => hto j hj (by have e := HSZ.out; simp at hj; omega)))
   go_wp2_with fail
   go_ret
   exact ⟨by rw [HF.out]; rfl, rfl⟩
theorem rnumber_any (s : ByteArray) (w : World) :
  Calls Tryz.prog 165 #[.string s] w fun e w' => e = .returned (.bool (numberL s.data.toList)) ∧ w = w' := by
 rcases Nat.eq_zero_or_pos s.size with h0 | h0
 ·exact rnumber_nil s w h0
 ·rcases Nat.lt_or_ge 1 s.size with h1 | h1
  ·cases hm : (((s[0]'(by omega)).toNat : Int) == 45)
   ·rcases Nat.lt_or_ge 9 s.size with h9 | h9
    ·exact rnumber_long s w h9 hm
    ·cases hz : (((s[0]'(by omega)).toNat : Int) == 48)
     ·exact rnumber_more s w h1 h9 hm hz
     ·exact rnumber_zero s w h1 h9 hm hz
   ·cases hz : ((((s.extract 1 s.size)[0]'(by simp; omega)).toNat : Int) == 48)
    ·rcases Nat.lt_or_ge 10 s.size with h9 | h9
     ·exact rnumber_neg_long s w h9 hm hz
     ·exact rnumber_neg_more s w h1 h9 hm hz
    ·exact rnumber_neg_zero s w h1 hm hz
  ·exact rnumber_one s w h0 h1
end
section
open Go.RowKit
def signsL : List (List UInt8) := [[45, 62], [58, 58], [124, 124], [40], [41], [61], [43], [45], [42], [60], [124], [46], [59], [64]]
def sigAt (k : Nat) : ByteArray := ⟨(signsL.getD k []).toArray⟩
def NoSig (l : List UInt8) (k : Nat) : Prop := ∀ j, j < k → Lib.hasPrefix l (signsL.getD j []) = false
theorem head_of_prefix {l : List UInt8} {c : UInt8} (h : Lib.hasPrefix l [c] = true) : ∃ r, l = c :: r := by
 cases l with
 | nil => simp [Lib.hasPrefix] at h
 | cons d r => refine ⟨r, ?_⟩; simp [Lib.hasPrefix] at h; rw [h]
theorem signL_sig {l : List UInt8} {k : Nat} (hk : k < 14) (h : NoSig l k) (hp : Lib.hasPrefix l (signsL.getD k []) = true) : signL l = (signsL.getD k []).length := by
 by_cases h3 : k < 3
 ·have : signL l = 2 := signL_two (by
   have : k = 0 ∨ k = 1 ∨ k = 2 := by omega
   rcases this with rfl | rfl | rfl
   ·exact .inl hp
   ·exact .inr (.inl hp)
   ·exact .inr (.inr hp))
  rw [this]
  have : k = 0 ∨ k = 1 ∨ k = 2 := by omega
  rcases this with rfl | rfl | rfl <;> rfl
 ·have e0 := h 0 (by omega)
  have e1 := h 1 (by omega)
  have e2 := h 2 (by omega)
  simp only [signsL, List.getD_cons_zero, List.getD_cons_succ] at e0 e1 e2
  have one : ∀ c r, l = c :: r → 0 ≤ Lib.indexByte onesL c → signL l = 1 := fun c r e hi => by
   subst e
   unfold signL
   rw [if_neg (by simp [e0, e1, e2])]
   simp [hi]
  have : k = 3 ∨ k = 4 ∨ k = 5 ∨ k = 6 ∨ k = 7 ∨ k = 8 ∨ k = 9 ∨ k = 10 ∨ k = 11 ∨ k = 12 ∨ k = 13 := by omega
  rcases this with rfl | rfl | rfl | rfl | rfl | rfl | rfl | rfl | rfl | rfl | rfl
  all_goals
   obtain ⟨r, hr⟩ := head_of_prefix hp
   rw [one _ r hr (by decide)]
   rfl
theorem index_mem {c : UInt8} : ∀ {l : List UInt8}, 0 ≤ Lib.indexByte l c → c ∈ l
 | [], h => by simp [Lib.indexByte] at h
 | b :: l, h => by
  unfold Lib.indexByte at h
  by_cases hb : (b == c) = true
  ·rw [eq_of_beq hb]; simp
  ·rw [if_neg hb] at h
   by_cases hl : (Lib.indexByte l c == -1) = true
   ·rw [if_pos hl] at h; simp at h
   ·have := Lib.indexByte_ge l c
    have h2 : 0 ≤ Lib.indexByte l c := by simp at hl; omega
    exact List.mem_cons_of_mem _ (index_mem h2)
theorem signL_none {l : List UInt8} (h : NoSig l 14) : signL l = 0 := by
 have e0 := h 0 (by omega)
 have e1 := h 1 (by omega)
 have e2 := h 2 (by omega)
 simp only [signsL, List.getD_cons_zero, List.getD_cons_succ] at e0 e1 e2
 unfold signL
 rw [if_neg (by simp [e0, e1, e2])]
 cases l with
 | nil => rfl
 | cons c r =>
  by_cases hi : 0 ≤ Lib.indexByte onesL c
  ·have hm := index_mem hi
   have pre : ∀ d, c = d → Lib.hasPrefix (c :: r) [d] = true := fun d e => by subst e; simp [Lib.hasPrefix]
   simp only [onesL, List.mem_cons, List.not_mem_nil, or_false] at hm
   rcases hm with e | e | e | e | e | e | e | e | e | e | e
   ·have := h 3 (by omega); rw [show signsL.getD 3 [] = [40] from rfl, pre _ e] at this; cases this
   ·have := h 4 (by omega); rw [show signsL.getD 4 [] = [41] from rfl, pre _ e] at this; cases this
   ·have := h 5 (by omega); rw [show signsL.getD 5 [] = [61] from rfl, pre _ e] at this; cases this
   ·have := h 6 (by omega); rw [show signsL.getD 6 [] = [43] from rfl, pre _ e] at this; cases this
   ·have := h 7 (by omega); rw [show signsL.getD 7 [] = [45] from rfl, pre _ e] at this; cases this
   ·have := h 8 (by omega); rw [show signsL.getD 8 [] = [42] from rfl, pre _ e] at this; cases this
   ·have := h 9 (by omega); rw [show signsL.getD 9 [] = [60] from rfl, pre _ e] at this; cases this
   ·have := h 10 (by omega); rw [show signsL.getD 10 [] = [124] from rfl, pre _ e] at this; cases this
   ·have := h 11 (by omega); rw [show signsL.getD 11 [] = [46] from rfl, pre _ e] at this; cases this
   ·have := h 12 (by omega); rw [show signsL.getD 12 [] = [59] from rfl, pre _ e] at this; cases this
   ·have := h 13 (by omega); rw [show signsL.getD 13 [] = [64] from rfl, pre _ e] at this; cases this
  ·simp [hi]
def SigsAt (b : Nat) (w : World) : Prop := ∀ k, k < 14 → w.cell? ⟨b, k, none⟩ = some (.string (sigAt k))
theorem rSigns_any (w : World) : Calls Tryz.prog 163 #[] w fun e w' => e = .returned (.slice (some ⟨w.heap.size, 0, none⟩) 14 14) ∧ SigsAt w.heap.size w' ∧ Below w.heap.size w w' ∧ w.heap.size < w'.heap.size := by
 go_enter Tryz.func163, Tryz.ntmps163
 go_wp2_with fail
 go_ret
 refine ⟨rfl, fun k hk => ?_, (Below.refl _ _).alloc (Nat.le_refl _) _, by simp⟩
 have : k = 0 ∨ k = 1 ∨ k = 2 ∨ k = 3 ∨ k = 4 ∨ k = 5 ∨ k = 6 ∨ k = 7 ∨ k = 8 ∨ k = 9 ∨ k = 10 ∨ k = 11 ∨ k = 12 ∨ k = 13 := by omega
 rcases this with rfl | rfl | rfl | rfl | rfl | rfl | rfl | rfl | rfl | rfl | rfl | rfl | rfl | rfl
 all_goals simp [go_sem, sigAt, signsL]
theorem sigAt_size {k : Nat} (h : k < 14) : 1 ≤ (sigAt k).size ∧ (sigAt k).size ≤ 2 := by
 have : k = 0 ∨ k = 1 ∨ k = 2 ∨ k = 3 ∨ k = 4 ∨ k = 5 ∨ k = 6 ∨ k = 7 ∨ k = 8 ∨ k = 9 ∨ k = 10 ∨ k = 11 ∨ k = 12 ∨ k = 13 := by omega
 rcases this with rfl | rfl | rfl | rfl | rfl | rfl | rfl | rfl | rfl | rfl | rfl | rfl | rfl | rfl <;> exact ⟨by decide, by decide⟩
theorem bytes_eq' {a b : ByteArray} (h : a.data.toList = b.data.toList) : a = b := by
 obtain ⟨⟨la⟩⟩ := a; obtain ⟨⟨lb⟩⟩ := b; simp at h; subst h; rfl
theorem sigAt_list (k : Nat) : (sigAt k).data.toList = signsL.getD k [] := by simp [sigAt]
theorem noSig_step {l : List UInt8} {k : Nat} (h : NoSig l k) (h1 : Lib.hasPrefix l (signsL.getD k []) = false) : NoSig l (k + 1) := by
 intro j hj
 rcases Nat.lt_or_ge j k with hh | hh
 ·exact h j hh
 ·obtain rfl : j = k := by omega
  exact h1
theorem prefix_take (s g : ByteArray) : ((s.extract 0 g.size).toList == g.toList) = Lib.hasPrefix s.data.toList g.data.toList := by
 rw [ByteArray.toList_eq, ByteArray.toList_eq, extract_list, Bool.eq_iff_iff]
 unfold Lib.hasPrefix
 rw [List.isPrefixOf_iff_prefix, List.prefix_iff_eq_take, beq_iff_eq]
 simp only [List.drop_zero, Nat.sub_zero, toList_len]
 exact ⟨Eq.symm, Eq.symm⟩
theorem prefix_short {l p : List UInt8} (h : l.length < p.length) : Lib.hasPrefix l p = false := by
 unfold Lib.hasPrefix
 rw [Bool.eq_false_iff]
 intro h1
 have := (List.isPrefixOf_iff_prefix.1 h1).length_le
 omega
theorem sign_text {s g : ByteArray} (hn : signL s.data.toList = g.size) (hq : ((s.extract 0 g.size).toList == g.toList) = true) : s.extract 0 (signL s.data.toList) = g := by
 rw [hn]
 rw [ByteArray.toList_eq, ByteArray.toList_eq, beq_iff_eq] at hq
 exact bytes_eq' hq
set_option maxHeartbeats 400000 in
theorem rsign_any (s : ByteArray) (w : World) :
  Calls Tryz.prog 122 #[.string s] w fun e w' => e = .returned (.string (s.extract 0 (signL s.data.toList))) ∧ Below w.heap.size w w' := by
 go_enter Tryz.func122, Tryz.ntmps122
 go_wp2_with (first | (go_at_call 163; refine (rSigns_any _).mono ?_; rintro e w1 ⟨rfl, hsig, hb, hz⟩))
 have HS := Lib.hid hsig
 have HB := Lib.hid hb
 clear hsig hb
 go_loopw [4] (fun i wr => ∃ k n : Nat, k ≤ 14 ∧ i = .int .i64 k ∧ wr = w1.drewN n ∧ NoSig s.data.toList k) (fun i _ => 14 - (intOf i).toNat)
 case atStart => exact ⟨0, 0, by omega, rfl, rfl, fun j h => absurd h (by omega)⟩
 case round =>
  obtain ⟨k, n, hk, rfl, rfl, hno⟩ := hrel
  by_cases hlt : k < 14
  ·have hcell := HS.out k hlt
   have hsz := sigAt_size hlt
   obtain ⟨g, HG⟩ : ∃ g, Hid (g = sigAt k) := ⟨_, Lib.hid rfl⟩
   rw [← HG.out] at hcell hsz
   obtain ⟨hz1, hz2⟩ := hsz
   have hki : (k : Int) < 14 := by omega
   by_cases hle : g.size ≤ s.size
   ·have hd : decide ((g.size : Int) ≤ (s.size : Int)) = true := by simp; omega
    cases hq : ((s.extract 0 g.size).toList == g.toList)
    ·have HN : Hid (NoSig s.data.toList (k + 1)) := Lib.hid (noSig_step hno (by rw [← sigAt_list k, ← HG.out, ← prefix_take]; exact hq))
     go_wp2_with fail
     go_quiet (fail)
     go_wp2_with fail
     go_roundw
     case rel => exact ⟨k + 1, _, by omega, by go_num, rfl, HN.out⟩
     case measure => simp [intOf]; omega
    ·have HF : Hid (s.extract 0 (signL s.data.toList) = g) := Lib.hid (sign_text (by rw [HG.out, ← toList_len, sigAt_list]; exact signL_sig hlt hno (by rw [← sigAt_list k, ← HG.out, ← prefix_take]; exact hq)) hq)
     go_wp2_with fail
     go_quiet (fail)
     go_wp2_with fail
     go_ret
     exact ⟨by rw [HF.out]; rfl, below_drewN HB.out _⟩
   ·have hd : decide ((g.size : Int) ≤ (s.size : Int)) = false := by simp; omega
    have hd' : decide (g.size ≤ s.size) = false := by simp; omega
    have HN : Hid (NoSig s.data.toList (k + 1)) := Lib.hid (noSig_step hno (prefix_short (by rw [← sigAt_list k, ← HG.out]; simp; omega)))
    go_wp2_with fail
    go_quiet (fail)
    go_wp2_with fail
    go_roundw
    case rel => exact ⟨k + 1, _, by omega, by go_num, rfl, HN.out⟩
    case measure => simp [intOf]; omega
  ·obtain rfl : k = 14 := by omega
   have HF : Hid (s.extract 0 (signL s.data.toList) = ⟨#[]⟩) := Lib.hid (by rw [signL_none hno]; exact bytes_eq' (by rw [extract_list]; simp))
   go_wp2_with fail
   go_ret
   exact ⟨by rw [HF.out]; rfl, below_drewN HB.out _⟩
end
section
open Go.RowKit
theorem labelL_size {s : ByteArray} (h : labelL s.data.toList = true) : s.size ≤ 90 := by
 rcases Nat.lt_or_ge 90 s.size with h1 | h1
 ·rw [labelL_long (by simpa using h1)] at h; cases h
 ·exact h1
theorem sign_whole (s : ByteArray) : ((s.extract 0 (signL s.data.toList)).toList == s.toList) = (signL s.data.toList == s.data.toList.length) := by
 rw [ByteArray.toList_eq, ByteArray.toList_eq, extract_list, Bool.eq_iff_iff, beq_iff_eq, beq_iff_eq]
 simp only [List.drop_zero, Nat.sub_zero]
 have h := signL_le s.data.toList
 constructor
 ·intro e
  have := congrArg List.length e
  rw [List.length_take] at this; omega
 ·intro e
  rw [e, List.take_length]
theorem rtext_1 (s : ByteArray) (w : World) :
  Calls Tryz.prog 123 #[.int .i64 1, .string s] w fun e w' => e = .returned (.bool (textL 1 s.data.toList)) ∧ Below w.heap.size w w' := by
 go_enter Tryz.func123, Tryz.ntmps123
 go_wp2_with (first | (go_at_call 164; refine (rWord_any _ _).mono ?_; rintro e w' ⟨rfl, rfl⟩))
 go_ret
 exact ⟨rfl, Below.refl _ _⟩
theorem rtext_3 (s : ByteArray) (w : World) :
  Calls Tryz.prog 123 #[.int .i64 3, .string s] w fun e w' => e = .returned (.bool (textL 3 s.data.toList)) ∧ Below w.heap.size w w' := by
 go_enter Tryz.func123, Tryz.ntmps123
 go_wp2_with (first | (go_at_call 165; refine (rnumber_any _ _).mono ?_; rintro e w' ⟨rfl, rfl⟩))
 go_ret
 exact ⟨rfl, Below.refl _ _⟩
theorem rtext_2 (s : ByteArray) (w : World) :
  Calls Tryz.prog 123 #[.int .i64 2, .string s] w fun e w' => e = .returned (.bool (textL 2 s.data.toList)) ∧ Below w.heap.size w w' := by
 cases hl : labelL s.data.toList
 ·have HF : Hid (textL 2 s.data.toList = false) := Lib.hid (by rw [textL_2, hl]; rfl)
  go_enter Tryz.func123, Tryz.ntmps123
  go_wp2_with (first | (go_at_call 68; refine (rLabel_any _ _).mono ?_; rintro e w' ⟨rfl, rfl⟩))
  go_ret
  exact ⟨by rw [HF.out]; rfl, Below.refl _ _⟩
 ·have hsz := labelL_size hl
  have HF : Hid (textL 2 s.data.toList = decide (runL noSlashB s.data.toList < s.size)) := Lib.hid (by rw [textL_2, hl, hasSlash_run, toList_len]; rfl)
  have Hs : Hid (∀ W, Calls Tryz.prog 120 #[.string s] W fun e w' => e = .returned (.int .i64 (runL noSlashB s.data.toList)) ∧ W = w') := Lib.hid (fun W => rslash_any s W (by unfold maxLen; omega))
  generalize runL noSlashB s.data.toList = n at *
  go_enter Tryz.func123, Tryz.ntmps123
  go_wp2_with (first | (go_at_call 68; refine (rLabel_any _ _).mono ?_; rintro e w' ⟨rfl, rfl⟩) | (go_at_call 120; refine (Hs.out _).mono ?_; rintro e w' ⟨rfl, rfl⟩))
  go_ret
  exact ⟨by rw [HF.out]; rfl, Below.refl _ _⟩
theorem rtext_4 (s : ByteArray) (w : World) :
  Calls Tryz.prog 123 #[.int .i64 4, .string s] w fun e w' => e = .returned (.bool (textL 4 s.data.toList)) ∧ Below w.heap.size w w' := by
 rcases Nat.eq_zero_or_pos s.size with h0 | h0
 ·have hE := empty_yes s h0
  have HF : Hid (textL 4 s.data.toList = false) := Lib.hid (by rw [textL_4]; simp [h0])
  clear h0
  go_enter Tryz.func123, Tryz.ntmps123
  go_wp2_with fail
  go_ret
  exact ⟨by rw [HF.out]; rfl, Below.refl _ _⟩
 ·have hE := empty_no s h0
  have HF : Hid (textL 4 s.data.toList = ((s.extract 0 (signL s.data.toList)).toList == s.toList)) := Lib.hid (by rw [textL_4, sign_whole]; simp [h0])
  have Hs : Hid (∀ W, Calls Tryz.prog 122 #[.string s] W fun e w' => e = .returned (.string (s.extract 0 (signL s.data.toList))) ∧ Below W.heap.size W w') := Lib.hid (fun W => rsign_any s W)
  generalize s.extract 0 (signL s.data.toList) = g at *
  go_enter Tryz.func123, Tryz.ntmps123
  go_wp2_with (first | (go_at_call 122; refine (Hs.out _).mono ?_; rintro e w' ⟨rfl, hb⟩))
  go_ret
  exact ⟨by rw [HF.out]; rfl, hb⟩
theorem rtext_any (k : Int) (s : ByteArray) (w : World) (h1 : 1 ≤ k) (h4 : k ≤ 4) :
  Calls Tryz.prog 123 #[.int .i64 k, .string s] w fun e w' => e = .returned (.bool (textL k s.data.toList)) ∧ Below w.heap.size w w' := by
 have : k = 1 ∨ k = 2 ∨ k = 3 ∨ k = 4 := by omega
 rcases this with rfl | rfl | rfl | rfl
 ·exact rtext_1 s w
 ·exact rtext_2 s w
 ·exact rtext_3 s w
 ·exact rtext_4 s w
theorem rcheck_kind (k p : Int) (s : ByteArray) (w : World) (h : k < 1 ∨ 4 < k) :
  Calls Tryz.prog 64 #[.agg #[.int .i64 k, .string s, .int .i64 p]] w fun e w' => e = .returned (.int .i64 (checkL k s.data.toList p)) ∧ Below w.heap.size w w' := by
 have HF := Lib.hid (checkL_kind (p := p) (l := s.data.toList) h)
 by_cases h1 : k < 1
 ·have hd : decide (k < 1) = true := by simpa using h1
  clear h
  go_enter Tryz.func64, Tryz.ntmps64
  go_wp2_with fail
  go_ret
  exact ⟨by rw [HF.out]; rfl, (Below.refl _ _).alloc (Nat.le_refl _) _⟩
 ·have hd : decide (k < 1) = false := by simpa using h1
  have hd4 : decide (4 < k) = true := by simp; omega
  clear h
  go_enter Tryz.func64, Tryz.ntmps64
  go_wp2_with fail
  go_ret
  exact ⟨by rw [HF.out]; rfl, (Below.refl _ _).alloc (Nat.le_refl _) _⟩
theorem rcheck_in (k p : Int) (s : ByteArray) (w : World) (h1 : 1 ≤ k) (h4 : k ≤ 4) :
  Calls Tryz.prog 64 #[.agg #[.int .i64 k, .string s, .int .i64 p]] w fun e w' => e = .returned (.int .i64 (checkL k s.data.toList p)) ∧ Below w.heap.size w w' := by
 have hd : decide (k < 1) = false := by simpa using h1
 have hd4 : decide (4 < k) = false := by simpa using h4
 have Hc : Hid (∀ W, Calls Tryz.prog 123 #[.int .i64 k, .string s] W fun e w' => e = .returned (.bool (textL k s.data.toList)) ∧ Below W.heap.size W w') := Lib.hid (fun W => rtext_any k s W h1 h4)
 cases ht : textL k s.data.toList
 ·have HF := Lib.hid (checkL_text (p := p) h1 h4 ht)
  rw [ht] at Hc
  clear ht
  go_enter Tryz.func64, Tryz.ntmps64
  go_wp2_with (first | (go_at_call 123; refine (Hc.out _).mono ?_; rintro e w' ⟨rfl, hb⟩))
  go_ret
  exact ⟨by rw [HF.out]; rfl, ((Below.refl _ _).alloc (Nat.le_refl _) _).trans (hb.mono (by simp))⟩
 ·rw [ht] at Hc
  by_cases hp : p < 0
  ·have HF := Lib.hid (checkL_at (p := p) h1 h4 ht hp)
   clear ht
   go_enter Tryz.func64, Tryz.ntmps64
   go_wp2_with (first | (go_at_call 123; refine (Hc.out _).mono ?_; rintro e w' ⟨rfl, hb⟩; obtain ⟨hc, hf⟩ := bcell hb))
   go_ret
   exact ⟨by rw [HF.out]; rfl, ((Below.refl _ _).alloc (Nat.le_refl _) _).trans (hb.mono (by simp))⟩
  ·have HF := Lib.hid (checkL_ok (p := p) h1 h4 ht hp)
   clear ht
   go_enter Tryz.func64, Tryz.ntmps64
   go_wp2_with (first | (go_at_call 123; refine (Hc.out _).mono ?_; rintro e w' ⟨rfl, hb⟩; obtain ⟨hc, hf⟩ := bcell hb))
   go_ret
   exact ⟨by rw [HF.out]; rfl, ((Below.refl _ _).alloc (Nat.le_refl _) _).trans (hb.mono (by simp))⟩
theorem rcheckT_any (k p : Int) (s : ByteArray) (w : World) :
  Calls Tryz.prog 64 #[.agg #[.int .i64 k, .string s, .int .i64 p]] w fun e w' => e = .returned (.int .i64 (checkL k s.data.toList p)) ∧ Below w.heap.size w w' := by
 by_cases h : k < 1 ∨ 4 < k
 ·exact rcheck_kind k p s w h
 ·exact rcheck_in k p s w (by omega) (by omega)
end
end Go.Proofs.YtnnolijagpakiaaGreatDoor
