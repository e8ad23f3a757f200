/- Texts of this proof, part 25: what the proof uses of them. -/
import Derived.Test.YtnnolijagpakiaaGreatDoorRax
import Derived.Test.YtnnolijagpakiaaGreatDoorRao
namespace Go.Proofs.YtnnolijagpakiaaGreatDoor
section
open Go Go.RowKit
abbrev exZ : Blk := .cell 36 [.d (.raw (.int .i64 0)), .d (.raw (.string ⟨#[]⟩)), .d (.raw (.string ⟨#[]⟩)), .d (.raw (.int .i64 0)), .d (.raw (.int .i64 0)), .d (.raw (.slice none 0 0))]
abbrev exSt (s : RS) : St := ⟨[(0, .box 901 0), (2, .box 0 0), (3, .mapd restKs restCs)], [(901, some (rdBlk s)), (0, some exZ)], (rdL s).toks⟩
def popT (s : RS) : RS := { s with td := s.td.cut (s.td.len - 1) }
theorem exSt_of {s s' : RS} (h : rdL s = rdL s') : exSt s = exSt s' := congrArg (fun L : Lent => (⟨[(0, .box 901 0), (2, .box 0 0), (3, .mapd restKs restCs)], L.blks ++ [(0, some exZ)], L.toks⟩ : St)) h
theorem RelM.pop {s : RS} {p : Pt} {ps : List Pt} {nm : List ByteArray} {ni : List Int} {su : List Ex} (h : RelM s ⟨p :: ps, nm, ni, su⟩) : RelM (popT s) ⟨ps, nm, ni, su⟩ ∧ s.td.rows.getD (s.td.len - 1) [] = encPV (pvP p) ∧ 1 ≤ s.td.len ∧ s.td.len ≤ s.td.rows.length := by
 have hl := h.td.len
 have e : encTd (p :: ps) = encTd ps ++ [encPV (pvP p)] := by simp [encTd]
 have hel : (encTd ps).length = ps.length := by simp [encTd]
 have h0 := h.td
 simp only [e] at h0 hl
 rw [List.length_append, List.length_singleton] at hl
 refine ⟨⟨?_, h.nm, h.ni, h.pt, h.at_⟩, ?_, by omega, h.td.le⟩
 ·have := h0.cut (n := s.td.len - 1) (by rw [List.length_append]; omega)
  rw [List.take_append_of_le_length (by omega), List.take_of_length_le (by omega)] at this
  exact this
 ·rw [h0.getD (by omega), List.getD_eq_getElem?_getD, List.getElem?_append_right (by omega), show s.td.len - 1 - (encTd ps).length = 0 by omega]
  rfl
theorem satC_stkOld {P : Program} {A : Base P} {σ : St} {k : Tok} (q r j st n : Nat) (e : TypeId) {ty : TypeId} {cs : List AV} {c : Code} {K : Exit → St → Prop} (hk : σ.tok q = some k) (hx : k.ex ≠ none) (hn : k.len < n) (hb : σ.blk r = some (.cell ty cs)) (hj : cs[j]? = some (.d (.raw (.slice Option.none 0 0))))
  (h : SatC P A c ((σ.setTok q (some ⟨st, e, n, some []⟩)).setBlk r (some (.cell ty (cs.set j (.stk q st n 0 0))))) K) : SatC P A c σ K := by
 refine satC_ok (fun g a w hok => ?_) h
 obtain ⟨g', h1, h2, _⟩ := hok.nilStk (q := q) (st := st) (n := n) (e := e) (.inl ⟨k, hk, hx, hn⟩)
 obtain ⟨hB, arr, c1, c2, c3⟩ := h1.blk r _ hb
 obtain ⟨hjl, hje⟩ := List.getElem?_eq_some_iff.1 hj
 refine ⟨_, (h1.write (k' := .cell ty (cs.set j (.stk q st n 0 0))) (w' := w) hb (fun _ _ => rfl) rfl (.of (Below.refl _ _)) ⟨arr, c1, by simpa using c2, fun i hi hi' => ?_⟩).1⟩
 have hi2 : i < cs.length := by simpa using hi
 rw [List.getElem_set]
 split
 ·rename_i e1; subst e1
  have h3 := c3 j hjl hi'
  rw [hje] at h3
  rw [h3.raw_eq]; exact h2
 ·exact c3 i hi2 hi'
abbrev HN : Prop := ∀ x : LTok, Con Tryz.prog 135 [avT x] (.d (.raw (.bool (nfK x))))
abbrev HM : Prop := ∀ x : LTok, Con Tryz.prog 136 [avT x] (.d (.raw (.bool (mfK x))))
abbrev HI : Prop := ∀ x : LTok, mfK x = true → Con Tryz.prog 137 [.d (.raw (.string ⟨x.text.toArray⟩))] (.tup [.d (.raw (.int .i64 (nvK x))), .d (.raw .nilIface)])
set_option maxRecDepth 100000 in
set_option maxHeartbeats 16000000 in
theorem expr_r (hN : HN) (hM : HM) (hI : HI) (s : RS) (t : List LTok) (hS : Rdy s t) :
  ConL Tryz.prog 39 [.box 901 0] (rdL s) (PostR t (pE ((restK s).length + 1) (restK s)) avE) := by
 have hR : ∃ R, (match pE ((restK s).length + 1) (restK s) with
   | (some e, r) => R = (some (⟨[], [], [], [e]⟩ : Mch), r)
   | (none, r) => R = (none, r)) ∧ MRuns [.expr] [] [] [] (restK s) R := by
  cases hp : pE ((restK s).length + 1) (restK s) with
  | mk a r =>
   cases a with
   | some e => exact ⟨_, rfl, reader_pE _ _ _ _ _ _ _ (Nat.lt_succ_self _) (by rw [hp]; exact ⟨0, .done _ _ rfl⟩)⟩
   | none => exact ⟨_, rfl, reader_pE _ _ _ _ _ _ _ (Nat.lt_succ_self _) (by rw [hp]; rfl)⟩
 obtain ⟨R, hRe, n0, hrun⟩ := hR
 have ht := hS.few'
 have hE := hS.em
 refine conL_of [901] [910, 911, 912, 913] Tryz.func39 rfl (by decide +kernel) (by simp [Tryz.ntmps39]) fun A hA => ?_
 rw [Tryz.ntmps39] at hA
 refine goC 100600 ?_
 simp only [go_sem, hA]
 refine goCall 100600 rests_c rfl (by simp only [go_sem]) (by simp only [go_sem, hA]) ?_
 simp only [go_sem, hA]
 refine goCall 100600 (only_c 5) rfl (by simp only [go_sem]) (by simp only [go_sem, hA]) ?_
 simp only [go_sem, hA]
 have htd0 := hE.td.len
 refine goCallL [901] [910, 911, 912, 913] 100600 (add_r s [pvO 5] (by simp) (by simp) hE.td.le (by simp at htd0; simp; omega)) rfl rfl rfl rfl rfl (by simp only [go_sem, hA]) (fun res L' h => ?_) (fun pv h => by cases h)
 cases h
 simp only [go_sem]
 have hrel0 : RelM s ⟨[], [], [], []⟩ := hS.relM
 obtain ⟨hrel, hrest, htoks⟩ := hrel0.add [.expr]
 simp only [List.map_cons, List.map_nil, List.append_nil] at hrel hrest htoks
 refine satC_loop [0, 2, 3] [901, 0] [910, 911, 912, 913] (fun n σ => ∃ s1 : RS, InvX s R n s1 ∧ σ = exSt s1) n0 ⟨addTd s [pvO 5], ⟨⟨[.expr], [], [], []⟩, by rw [show pvO 5 = pvP .expr from rfl, hrest]; exact hrun, hrel, trivial, ?_, htoks⟩, rfl⟩ ?_
 ·rw [show pvO 5 = pvP .expr from rfl, hrest]
  simp only [bdM, wPts, wP, List.length_nil]
  unfold restK
  rw [List.length_map, List.length_drop]; omega
 rintro n σ ⟨s1, ⟨⟨td, nm, ni, su⟩, hrun1, hrel1, hwf, hbd, htk⟩, rfl⟩
 have hle1 := hrel1.td.le
 have hfew := bd_few hbd
 have htl := hrel1.td.len
 simp only [encTd, List.length_map, List.length_reverse] at htl hfew
 have ht1 : s1.toks.length ≤ 1048576 := by rw [htk]; exact ht
 cases td with
 | nil =>
  have hm := hrun1.inv0 rfl
  have hl0 : s1.td.len = 0 := htl
  have g0 : decide ((0 : Int) < (s1.td.len : Int)) = false := decide_eq_false (by omega)
  cases hp : pE ((restK s).length + 1) (restK s) with
  | mk a r =>
   rw [hp] at hRe
   cases a with
   | none => rw [hm] at hRe; cases hRe
   | some e =>
    rw [hm] at hRe
    cases hRe
    have hpt := hrel1.pt
    have hpl := hpt.len
    have hg1 : s1.pt.rows.getD 0 [] = encE e := by
     rw [hpt.getD (by rw [hpl]; simp [encL])]; rfl
    have hpl1 : s1.pt.len = 1 := by rw [hpl]; simp [encL]
    have hple := hpt.le
    rw [encE_eq] at hg1
    refine goC 92 ?_
    simp only [go_sem, hA, exSt, g0, hg1]
    refine ⟨by omega, by omega, ?_⟩
    refine satC_stkOld 913 901 5 6 (s1.pt.ver + 1) 36 rfl (by simp) (Nat.lt_succ_self _) rfl rfl ?_
    refine goC 300 ?_
    simp only [go_sem, hA, Tryz.results39]
    exact ⟨_, rfl, rfl, { s1 with pt := ⟨s1.pt.ver + 1, 0, []⟩ }, by rw [avE_eq], ⟨htk.trans hS.toks, by have := hrel1.at_; rw [htk, hS.toks] at this; exact this, hS.few, ⟨hrel1.td, hrel1.nm, hrel1.ni, ⟨rfl, rfl⟩⟩⟩, rfl⟩
 | cons p ps =>
  obtain ⟨hrel2, hp, h1, h2⟩ := hrel1.pop
  have hround : ∀ o, StepPost (popT s1) (stepP p ⟨ps, nm, ni, su⟩ (restK (popT s1))) o → Round s R n o := fun o ho => round_of hrun1 hwf hbd htk rfl ho
  have g0 : decide ((0 : Int) < (s1.td.len : Int)) = true := decide_eq_true (by omega)
  have gw : IntKind.i64.wrap ((s1.td.len : Int) - 1) = (s1.td.len : Int) - 1 := wrapI64 (by unfold inI64; omega)
  have gt : ((s1.td.len : Int) - 1).toNat = s1.td.len - 1 := by omega
  refine goC 100600 ?_
  simp only [go_sem, hA, exSt, g0]
  refine goDr 100600 mixed ?_
  simp only [go_sem, hA, gt, Nat.zero_add, hp, encPV]
  refine ⟨by unfold inI64; omega, ⟨by omega, by omega⟩, by omega, ?_⟩
  refine ⟨by kernel_rfl, ?_⟩
  refine goDr 100600 mixed ?_
  simp only [go_sem, hA, gt, Nat.zero_add]
  have hpan : ∀ r, R = (none, r) → PostR t (pE ((restK s).length + 1) (restK s)) avE (.pan (pvA (s.toks.length - r.length))) := fun r hr => by
   cases hp : pE ((restK s).length + 1) (restK s) with
   | mk a q =>
    rw [hp, hr] at hRe
    cases a with
    | some e => cases hRe
    | none => cases hRe; rw [hS.toks]; rfl
  have hp2 := hrel2.pt.le
  have hp3 := hrel2.pt.len
  simp only [encL_length] at hp3
  have hn2 := hrel2.nm.le
  have hn3 := hrel2.nm.len
  simp only [List.length_map] at hn3
  have hi2 := hrel2.ni.le
  have hi3 := hrel2.ni.len
  simp only [List.length_map] at hi3
  simp only [List.length_cons] at hfew htl
  refine ⟨by unfold inI64; omega, ⟨by omega, by omega⟩, by kernel_rfl, ?_⟩
  cases p with
  | word w =>
   have k1 : decide ((pvP (.word w)).k = 1) = true := rfl
   simp only [go_sem, hA, k1]
   refine goCallL [901] [910, 911, 912, 913] 100600 (expect_r (popT s1) 1 (bsL w) ht1) rfl rfl rfl rfl rfl (by simp only [go_sem, hA]) (fun res L' h => ?_) (fun pv h => ?_)
   ·obtain ⟨s', rfl, n', e1, e2⟩ := (hround _ (eat_post hrel2 1 w h)).ret
    simp only [go_sem]
    exact ⟨n', e1, s', e2, rfl⟩
   ·obtain ⟨r, rfl, e2⟩ := (hround _ (eat_post hrel2 1 w h)).pan
    exact ⟨_, rfl, hpan r e2⟩
  | sign w =>
   have k1 : decide ((pvP (.sign w)).k = 1) = false := rfl
   have k2 : decide ((pvP (.sign w)).k = 2) = true := rfl
   simp only [go_sem, hA, k1, k2]
   refine goCallL [901] [910, 911, 912, 913] 100600 (expect_r (popT s1) 4 (bsL w) ht1) rfl rfl rfl rfl rfl (by simp only [go_sem, hA]) (fun res L' h => ?_) (fun pv h => ?_)
   ·obtain ⟨s', rfl, n', e1, e2⟩ := (hround _ (eat_post hrel2 4 w h)).ret
    simp only [go_sem]
    exact ⟨n', e1, s', e2, rfl⟩
   ·obtain ⟨r, rfl, e2⟩ := (hround _ (eat_post hrel2 4 w h)).pan
    exact ⟨_, rfl, hpan r e2⟩
  | name =>
   have k1 : decide ((pvP (.name)).k = 1) = false := rfl
   have k2 : decide ((pvP (.name)).k = 2) = false := rfl
   have k3 : decide ((pvP (.name)).k = 3) = true := rfl
   simp only [go_sem, hA, k1, k2, k3]
   refine goDrawnL 100600 mixed ?_
   refine dCall 6 [6, 7, 8, 9, 10, 11] [901] [910, 911, 912, 913] (name_r nfK hN (popT s1) ht1) [] rfl rfl rfl (by kernel_rfl) rfl (by simp only [go_sem]) (by kernel_rfl) (by simp only [go_sem, hA]) ?_
   simp only [go_sem, hA]
   refine ⟨by kernel_rfl, fun y L' h => ?_, fun pv h => ?_⟩
   rotate_left
   ·rcases keep_name hrel2 h with ⟨x, e, _⟩ | ⟨v, e, h3⟩
    ·cases e
    ·cases e
     obtain ⟨r, rfl, e2⟩ := (hround _ h3).pan
     exact ⟨_, rfl, hpan r e2⟩
   rcases keep_name hrel2 h with ⟨x, e, h3⟩ | ⟨v, e, _⟩
   rotate_left
   ·cases e
   cases e
   obtain ⟨s', hs', n', e1, e2⟩ := (hround _ h3).ret
   refine dFin ?_
   simp only [go_sem, hA]
   exact ⟨⟨encS_fit [bT x], hn2, (by show s1.nm.len ≤ _; have : s1.nm.len = nm.length := hn3; omega)⟩, by kernel_rfl, rfl, n', e1, s', e2, exSt_of hs'⟩
  | number =>
   have k1 : decide ((pvP (.number)).k = 1) = false := rfl
   have k2 : decide ((pvP (.number)).k = 2) = false := rfl
   have k3 : decide ((pvP (.number)).k = 3) = false := rfl
   have k4 : decide ((pvP (.number)).k = 4) = true := rfl
   simp only [go_sem, hA, k1, k2, k3, k4]
   refine goDrawnL 100600 mixed ?_
   refine dCall 6 [6, 7, 8, 9, 10, 11] [901] [910, 911, 912, 913] (number_r mfK nvK hM hI (popT s1) ht1) [] rfl rfl rfl (by kernel_rfl) rfl (by simp only [go_sem]) (by kernel_rfl) (by simp only [go_sem, hA]) ?_
   simp only [go_sem, hA]
   refine ⟨by kernel_rfl, fun y L' h => ?_, fun pv h => ?_⟩
   rotate_left
   ·rcases keep_num hrel2 h with ⟨x, e, _⟩ | ⟨v, e, h3⟩
    ·cases e
    ·cases e
     obtain ⟨r, rfl, e2⟩ := (hround _ h3).pan
     exact ⟨_, rfl, hpan r e2⟩
   rcases keep_num hrel2 h with ⟨x, e, h3⟩ | ⟨v, e, _⟩
   rotate_left
   ·cases e
   cases e
   obtain ⟨s', hs', n', e1, e2⟩ := (hround _ h3).ret
   refine dFin ?_
   simp only [go_sem, hA]
   exact ⟨⟨(by intro r hr; simp only [List.mem_singleton] at hr; subst hr; exact ⟨rfl, fun x hx => by simp only [List.mem_singleton] at hx; subst hx; rfl⟩), hi2, (by show s1.ni.len ≤ _; have : s1.ni.len = ni.length := hi3; omega)⟩, by kernel_rfl, rfl, n', e1, s', e2, exSt_of hs'⟩
  | expr =>
   have k1 : decide ((pvP (.expr)).k = 1) = false := rfl
   have k2 : decide ((pvP (.expr)).k = 2) = false := rfl
   have k3 : decide ((pvP (.expr)).k = 3) = false := rfl
   have k4 : decide ((pvP (.expr)).k = 4) = false := rfl
   have k5 : decide ((pvP (.expr)).k = 5) = true := rfl
   simp only [go_sem, hA, k1, k2, k3, k4, k5]
   refine goCallL [901] [910, 911, 912, 913] 100600 (start_r nfK mfK nvK hN hM hI (popT s1) ⟨hrel2.td.le, by show s1.td.len - 1 + 20 ≤ _; omega⟩ ⟨hp2, by omega⟩ ht1) rfl rfl rfl rfl rfl (by simp only [go_sem, hA]) (fun res L' h => ?_) (fun pv h => ?_)
   ·obtain ⟨s', rfl, n', e1, e2⟩ := (hround _ (start_post hrel2 h)).ret
    simp only [go_sem]
    exact ⟨n', e1, s', e2, rfl⟩
   ·obtain ⟨r, rfl, e2⟩ := (hround _ (start_post hrel2 h)).pan
    exact ⟨_, rfl, hpan r e2⟩
  | tail =>
   have k1 : decide ((pvP (.tail)).k = 1) = false := rfl
   have k2 : decide ((pvP (.tail)).k = 2) = false := rfl
   have k3 : decide ((pvP (.tail)).k = 3) = false := rfl
   have k4 : decide ((pvP (.tail)).k = 4) = false := rfl
   have k5 : decide ((pvP (.tail)).k = 5) = false := rfl
   have k6 : decide ((pvP (.tail)).k = 6) = true := rfl
   simp only [go_sem, hA, k1, k2, k3, k4, k5, k6]
   refine goCallL [901] [910, 911, 912, 913] 100600 (tail_r (popT s1) ⟨hrel2.td.le, by show s1.td.len - 1 + 20 ≤ _; omega⟩ ht1) rfl rfl rfl rfl rfl (by simp only [go_sem, hA]) (fun res L' h => ?_) (fun pv h => ?_)
   ·obtain ⟨s', rfl, n', e1, e2⟩ := (hround _ (tail_post hrel2 h)).ret
    simp only [go_sem]
    exact ⟨n', e1, s', e2, rfl⟩
   ·obtain ⟨r, rfl, e2⟩ := (hround _ (tail_post hrel2 h)).pan
    exact ⟨_, rfl, hpan r e2⟩
  | join k op a b c =>
   have k1 : decide ((pvP (.join k op a b c)).k = 1) = false := rfl
   have k2 : decide ((pvP (.join k op a b c)).k = 2) = false := rfl
   have k3 : decide ((pvP (.join k op a b c)).k = 3) = false := rfl
   have k4 : decide ((pvP (.join k op a b c)).k = 4) = false := rfl
   have k5 : decide ((pvP (.join k op a b c)).k = 5) = false := rfl
   have k6 : decide ((pvP (.join k op a b c)).k = 6) = false := rfl
   simp only [go_sem, hA, k1, k2, k3, k4, k5, k6]
   obtain ⟨hj, ha, hb, hc, hw⟩ := hwf
   refine goCallL [901] [910, 911, 912, 913] 100600 (build_j (s := popT s1) (k := k) (op := op) (m := ⟨ps, nm, ni, su⟩) hj hrel2 ha hb hc (by show nm.length + ni.length + su.length ≤ _; omega)) rfl rfl rfl rfl rfl (by simp only [go_sem, hA]) (fun res L' h => ?_) (fun pv h => by cases h)
   cases h
   obtain ⟨s', hs', n', e1, e2⟩ := (hround _ (join_post hrel2)).ret
   simp only [go_sem]
   exact ⟨n', e1, s', e2, exSt_of hs'⟩
end
section
open Go Go.RowKit
abbrev avNs (l : List ByteArray) : AV := .d (.sl (encS l))
def pNF : List ByteArray → List KT → PR (List ByteArray)
 | [], l => pNames l
 | [a], l => (pSide l).bind fun b r => (eatT (sg [124, 124]) r).bind fun _ r => (pSide r).bind fun c r => (some [a, b, c], r)
 | a :: b :: _, l => (pSide l).bind fun c r => (some [a, b, c], r)
theorem pNF_nil (l : List KT) : pNF [] l = (pSide l).bind fun a r => if a ≠ ⟨#[]⟩ ∧ r.head? ≠ some (sg [124, 124]) then (some [a], r) else (eatT (sg [124, 124]) r).bind fun _ r => pNF [a] r := rfl
theorem pNF_one (a : ByteArray) (l : List KT) : pNF [a] l = (pSide l).bind fun b r => (eatT (sg [124, 124]) r).bind fun _ r => pNF [a, b] r := rfl
theorem pNF_two (a b : ByteArray) (l : List KT) : pNF [a, b] l = (pSide l).bind fun c r => (some [a, b, c], r) := rfl
abbrev sdSt (s : RS) (l : List ByteArray) : St := ⟨[(0, .box 901 0), (3, .grow 99 (encS l))], [(901, some (rdBlk s))], (rdL s).toks ++ [(99, some ⟨1, 9, l.length, none⟩)]⟩
theorem sd_eq (s : RS) (l : List ByteArray) (x : ByteArray) : (⟨[(0, .box 901 0), (3, .grow 99 (encS l ++ [[.raw (.string x)]]))], [(901, some (rdBlk s))], (rdL s).toks ++ [(99, some ⟨1, 9, l.length + 1, none⟩)]⟩ : St) = sdSt s (l ++ [x]) := by
 unfold sdSt
 rw [← encS_append, List.length_append]; rfl
theorem pSide_nil {l r : List KT} (h : l = (1, [110, 105, 108]) :: r) : pSide l = (some ⟨#[]⟩, r) := by
 rw [h, pSide, if_pos (show (1, [110, 105, 108]) = wd wNil from rfl)]
theorem pSide_name {l : List KT} (h : l.head? ≠ some (1, [110, 105, 108])) : pSide l = pName l := by
 cases l with
 | nil => rfl
 | cons y r =>
  rw [pSide, if_neg]
  rintro rfl
  exact h rfl
theorem pNF_none {l : List ByteArray} {q r : List KT} (h : pSide q = (none, r)) : pNF l q = (none, r) := by
 match l with
 | [] => rw [pNF_nil, h]; rfl
 | [a] => rw [pNF_one, h]; rfl
 | a :: b :: _ => show (pSide q).bind _ = _; rw [h]; rfl
theorem pan_side {l : List ByteArray} {q r : List KT} {t : List LTok} (h : pSide q = (none, r)) : PostR t (pNF l q) avNs (.pan (pvA (t.length - r.length))) := by
 rw [pNF_none h]; rfl
set_option maxRecDepth 100000 in
set_option maxHeartbeats 16000000 in
theorem sides_r (hN : HN) (s : RS) (t : List LTok) (hS : Rdy s t) :
  ConL Tryz.prog 117 [.box 901 0] (rdL s) (PostR t (pNames (restK s)) avNs) := by
 refine conL_of [901] [910, 911, 912, 913] Tryz.func117 rfl (by decide +kernel) (by simp [Tryz.ntmps117]) fun A hA => ?_
 rw [Tryz.ntmps117] at hA
 refine goC 18 ?_
 simp only [go_sem, hA]
 refine satC_growTmp 99 3 1 9 (by simp only [go_sem]) rfl ?_
 refine satC_loop [0, 3] [901] [910, 911, 912, 913, 99] (fun n σ => ∃ (s1 : RS) (l : List ByteArray), l.length + n = 2 ∧ Rdy s1 t ∧ pNF l (restK s1) = pNames (restK s) ∧ σ = sdSt s1 l) 2 ⟨s, [], rfl, hS, rfl, by simp only [go_sem, sdSt]; rfl⟩ ?_
 rintro n σ ⟨s1, l, hl, hS1, hp, rfl⟩
 have ht1 := hS1.few'
 have hlt := hS1.le
 refine goC 1 ?_
 simp only [go_sem, sdSt]
 refine goMid 100600 [0, 3] [901] [910, 911, 912, 913, 99] (fun σ => ∃ x s2, pSide (restK s1) = (some x, restK s2) ∧ Rdy s2 t ∧ σ = sdSt s2 (l ++ [x])) ?_ ?_
 ·simp only [go_sem, hA]
  refine goCallL [901] [910, 911, 912, 913] 100600 (is_r s1 1 ⟨#[110, 105, 108]⟩) rfl rfl rfl rfl rfl (by simp only [go_sem, hA]) (fun res L' h => ?_) (fun pv h => by cases h)
  cases h
  cases b1 : isR s1 1 ⟨#[110, 105, 108]⟩ with
  | true =>
   obtain ⟨x, h1, h2, h3⟩ := hS1.is_t (w := [110, 105, 108]) b1
   simp only [go_sem, hA]
   exact ⟨by unfold inI64; have := hS1.at_; have := hS1.few; omega, ⟨encS_length l, encS_fit [⟨#[]⟩], encS_row l, by rw [encS_length]; omega⟩, ⟨#[]⟩, adv s1 1, pSide_nil h2, h3, sd_eq (adv s1 1) l ⟨#[]⟩⟩
  | false =>
   have h2 := is_f (w := [110, 105, 108]) b1
   simp only [go_sem, hA]
   refine goCallL [901] [910, 911, 912, 913] 100600 (name_r nfK hN s1 ht1) rfl rfl rfl rfl rfl (by simp only [go_sem, hA]) (fun res L' h => ?_) (fun pv h => ?_)
   rotate_left
   ·obtain ⟨r, e1, e2⟩ := (hS1.name h).pan
    subst e2
    have hr : pSide (restK s1) = (none, r) := by rw [pSide_name h2, e1]
    exact ⟨_, rfl, by rw [← hp]; exact pan_side hr⟩
   obtain ⟨x, s2, e1, rfl, rfl, hS2⟩ := (hS1.name h).ret
   simp only [go_sem, hA]
   exact ⟨⟨encS_length l, encS_fit [x], encS_row l, by rw [encS_length]; omega⟩, x, s2, by rw [pSide_name h2, e1], hS2, sd_eq _ _ _⟩
 rintro σ ⟨x, s2, hx, hS2, rfl⟩
 have ht2 := hS2.few'
 have d13 : decide ((1 : Int) = 3) = false := rfl
 have d11 : decide ((1 : Int) = 1) = true := rfl
 have d23 : decide ((2 : Int) = 3) = false := rfl
 have d21 : decide ((2 : Int) = 1) = false := rfl
 have d33 : decide ((3 : Int) = 3) = true := rfl
 match l, hl with
 | [], hl =>
  rw [pNF_nil, hx, PR.bind_some] at hp
  have gx : [[D.raw (.string x)]].getD 0 [] = [.raw (.string x)] := rfl
  show SatC _ A _ (⟨[(0, .box 901 0), (3, .grow 99 [[.raw (.string x)]])], [(901, some (rdBlk s2))], (rdL s2).toks ++ [(99, some ⟨1, 9, 1, none⟩)]⟩ : St) _
  refine goC 100600 ?_
  by_cases hz : x = ⟨#[]⟩
  ·have z1 : decide (¬ x = ⟨#[]⟩) = false := decide_eq_false (not_not_intro hz)
   rw [if_neg (by simp [hz])] at hp
   simp only [go_sem, hA, d13, undef, gx, z1]
   refine goCallL [901] [910, 911, 912, 913] 100600 (expect_r s2 4 ⟨#[124, 124]⟩ ht2) rfl rfl rfl rfl rfl (by simp only [go_sem, hA]) (fun res L' h => ?_) (fun pv h => ?_)
   rotate_left
   ·obtain ⟨r, e1, e2⟩ := (hS2.expect 4 [124, 124] h).pan
    subst e2
    rw [show eatT (sg [124, 124]) (restK s2) = (none, r) from e1] at hp
    exact ⟨_, rfl, by rw [← hp]; rfl⟩
   obtain ⟨u, s3, e1, rfl, rfl, hS3⟩ := (hS2.expect 4 [124, 124] h).ret
   rw [show eatT (sg [124, 124]) (restK s2) = (some u, restK s3) from e1, PR.bind_some] at hp
   simp only [go_sem]
   exact ⟨n - 1, by simp at hl; omega, s3, [x], by simp at hl ⊢; omega, hS3, hp, rfl⟩
  ·have z1 : decide (¬ x = ⟨#[]⟩) = true := decide_eq_true hz
   simp only [go_sem, hA, d13, gx, z1]
   refine goCallL [901] [910, 911, 912, 913] 100600 (is_r s2 4 ⟨#[124, 124]⟩) rfl rfl rfl rfl rfl (by simp only [go_sem, hA]) (fun res L' h => ?_) (fun pv h => by cases h)
   cases h
   cases b2 : isR s2 4 ⟨#[124, 124]⟩ with
   | true =>
    obtain ⟨y, h1, h2, h3⟩ := hS2.is_t (w := [124, 124]) b2
    rw [if_neg (by rw [h2]; simp)] at hp
    simp only [go_sem, hA]
    refine goCallL [901] [910, 911, 912, 913] 100600 (expect_r s2 4 ⟨#[124, 124]⟩ ht2) rfl rfl rfl rfl rfl (by simp only [go_sem, hA]) (fun res L' h => ?_) (fun pv h => ?_)
    rotate_left
    ·obtain ⟨r, e1, e2⟩ := (hS2.expect 4 [124, 124] h).pan
     subst e2
     rw [show eatT (sg [124, 124]) (restK s2) = (none, r) from e1] at hp
     exact ⟨_, rfl, by rw [← hp]; rfl⟩
    obtain ⟨u, s3, e1, rfl, rfl, hS3⟩ := (hS2.expect 4 [124, 124] h).ret
    rw [show eatT (sg [124, 124]) (restK s2) = (some u, restK s3) from e1, PR.bind_some] at hp
    simp only [go_sem]
    exact ⟨n - 1, by simp at hl; omega, s3, [x], by simp at hl ⊢; omega, hS3, hp, rfl⟩
   | false =>
    have h2 := is_f (w := [124, 124]) b2
    rw [if_pos ⟨hz, h2⟩] at hp
    simp only [go_sem, hA, Tryz.results117]
    exact ⟨_, rfl, rfl, by rw [← hp]; exact ⟨s2, rfl, hS2, rfl⟩⟩
 | [a], hl =>
  rw [pNF_one, hx, PR.bind_some] at hp
  show SatC _ A _ (⟨[(0, .box 901 0), (3, .grow 99 [[.raw (.string a)], [.raw (.string x)]])], [(901, some (rdBlk s2))], (rdL s2).toks ++ [(99, some ⟨1, 9, 2, none⟩)]⟩ : St) _
  refine goC 100600 ?_
  simp only [go_sem, hA, d23, d21, undef]
  refine goCallL [901] [910, 911, 912, 913] 100600 (expect_r s2 4 ⟨#[124, 124]⟩ ht2) rfl rfl rfl rfl rfl (by simp only [go_sem, hA]) (fun res L' h => ?_) (fun pv h => ?_)
  rotate_left
  ·obtain ⟨r, e1, e2⟩ := (hS2.expect 4 [124, 124] h).pan
   subst e2
   rw [show eatT (sg [124, 124]) (restK s2) = (none, r) from e1] at hp
   exact ⟨_, rfl, by rw [← hp]; rfl⟩
  obtain ⟨u, s3, e1, rfl, rfl, hS3⟩ := (hS2.expect 4 [124, 124] h).ret
  rw [show eatT (sg [124, 124]) (restK s2) = (some u, restK s3) from e1, PR.bind_some] at hp
  simp only [go_sem]
  exact ⟨n - 1, by simp at hl; omega, s3, [a, x], by simp at hl ⊢; omega, hS3, hp, rfl⟩
 | [a, b], hl =>
  rw [pNF_two, hx, PR.bind_some] at hp
  show SatC _ A _ (⟨[(0, .box 901 0), (3, .grow 99 [[.raw (.string a)], [.raw (.string b)], [.raw (.string x)]])], [(901, some (rdBlk s2))], (rdL s2).toks ++ [(99, some ⟨1, 9, 3, none⟩)]⟩ : St) _
  refine goC 100600 ?_
  simp only [go_sem, hA, undef, Tryz.results117]
  exact ⟨_, rfl, rfl, by rw [← hp]; exact ⟨s2, rfl, hS2, rfl⟩⟩
 | _ :: _ :: _ :: _, hl => simp at hl; omega
end
section
open Go Go.RowKit
def pUse (l : List KT) : PR ByteArray := (pLab l).bind fun x r => (eatT (sg [59]) r).bind fun _ r => (some x, r)
set_option maxRecDepth 100000 in
set_option maxHeartbeats 16000000 in
theorem use_r (s : RS) (t : List LTok) (hS : Rdy s t) :
  ConL Tryz.prog 61 [.box 901 0] (rdL s) (PostR t (pUse (restK s)) avB) := by
 have hat := hS.at_
 have hfw := hS.few
 have ht := hS.few'
 refine conL_of [901] [910, 911, 912, 913] Tryz.func61 rfl (by decide +kernel) (by simp [Tryz.ntmps61]) fun A hA => ?_
 rw [Tryz.ntmps61] at hA
 refine goC 100600 ?_
 simp only [go_sem, hA]
 refine goCallL [901] [910, 911, 912, 913] 100600 (next_r s) rfl rfl rfl rfl rfl (by simp only [go_sem, hA]) (fun res L' h => ?_) (fun pv h => ?_)
 rotate_left
 ·unfold postNext at h
  rcases hS.cases with ⟨h1, h2⟩ | ⟨x, h1, h2, h3⟩
  ·rw [h1] at h
   cases h
   exact ⟨_, rfl, by rw [hS.pvR, h2]; rfl⟩
  ·rw [h1] at h; cases h
 unfold postNext at h
 rcases hS.cases with ⟨h1, h2⟩ | ⟨x, h1, h2, h3⟩
 ·rw [h1] at h; cases h
 rw [h1] at h
 cases h
 have hfail : labelT (kt x) = false → PostR t (pUse (restK s)) avB (.pan (pvR s)) := fun hl => by
  unfold pUse
  rw [h2, pLab, hl, hS.pvR, h2]; rfl
 have hl : labelT (kt x) = ((decide (x.kind = 1) || decide (x.kind = 2)) && labelL x.text) := rfl
 have hgo : labelT (kt x) = true → ∀ h : True, pUse (restK s) = (eatT (sg [59]) (restK (adv s 1))).bind fun _ r => (some (bT x), r) := fun hl _ => by
  unfold pUse
  rw [h2, pLab, if_pos hl]; rfl
 have clab := sLabel_c (bT x)
 rw [show (bT x).data.toList = x.text from rfl] at clab
 by_cases k1 : x.kind = 1
 ·have d1 : decide (¬ x.kind = 1) = false := decide_eq_false (not_not_intro k1)
  simp only [go_sem, hA, encT, undef, d1]
  refine goCall 100600 clab rfl (by simp only [go_sem]) (by simp only [go_sem, hA]) ?_
  cases hb : labelL x.text with
  | false =>
   simp only [go_sem, hA]
   refine goCallL [901] [910, 911, 912, 913] 100600 (fail_c s) rfl rfl rfl rfl rfl (by simp only [go_sem, hA]) (fun _ _ h => by cases h) (fun pv h => ?_)
   cases h
   exact ⟨_, rfl, hfail (by rw [hl, hb]; simp)⟩
  | true =>
   have hu := hgo (by rw [hl, hb, decide_eq_true k1]; rfl) trivial
   simp only [go_sem, hA]
   refine ⟨by unfold inI64; omega, ?_⟩
   refine goCallL [901] [910, 911, 912, 913] 100600 (expect_r (adv s 1) 4 ⟨#[59]⟩ ht) rfl rfl rfl rfl rfl (by simp only [go_sem, hA]) (fun res L' h => ?_) (fun pv h => ?_)
   rotate_left
   ·obtain ⟨r, e1, e2⟩ := (h3.expect 4 [59] h).pan
    subst e2
    exact ⟨_, rfl, by rw [hu, show eatT (sg [59]) (restK (adv s 1)) = (none, r) from e1]; rfl⟩
   obtain ⟨u, s3, e1, rfl, rfl, hS3⟩ := (h3.expect 4 [59] h).ret
   simp only [go_sem, hA, Tryz.results61]
   exact ⟨_, rfl, rfl, by rw [hu, show eatT (sg [59]) (restK (adv s 1)) = (some u, restK s3) from e1]; exact ⟨s3, rfl, hS3, rfl⟩⟩
 ·have d1 : decide (¬ x.kind = 1) = true := decide_eq_true k1
  by_cases k2 : x.kind = 2
  ·have d2 : decide (¬ x.kind = 2) = false := decide_eq_false (not_not_intro k2)
   simp only [go_sem, hA, encT, d1, d2]
   refine goCall 100600 clab rfl (by simp only [go_sem]) (by simp only [go_sem, hA]) ?_
   cases hb : labelL x.text with
   | false =>
    simp only [go_sem, hA]
    refine goCallL [901] [910, 911, 912, 913] 100600 (fail_c s) rfl rfl rfl rfl rfl (by simp only [go_sem, hA]) (fun _ _ h => by cases h) (fun pv h => ?_)
    cases h
    exact ⟨_, rfl, hfail (by rw [hl, hb]; simp)⟩
   | true =>
    have hu := hgo (by rw [hl, hb, decide_eq_false k1, decide_eq_true k2]; rfl) trivial
    simp only [go_sem, hA]
    refine ⟨by unfold inI64; omega, ?_⟩
    refine goCallL [901] [910, 911, 912, 913] 100600 (expect_r (adv s 1) 4 ⟨#[59]⟩ ht) rfl rfl rfl rfl rfl (by simp only [go_sem, hA]) (fun res L' h => ?_) (fun pv h => ?_)
    rotate_left
    ·obtain ⟨r, e1, e2⟩ := (h3.expect 4 [59] h).pan
     subst e2
     exact ⟨_, rfl, by rw [hu, show eatT (sg [59]) (restK (adv s 1)) = (none, r) from e1]; rfl⟩
    obtain ⟨u, s3, e1, rfl, rfl, hS3⟩ := (h3.expect 4 [59] h).ret
    simp only [go_sem, hA, Tryz.results61]
    exact ⟨_, rfl, rfl, by rw [hu, show eatT (sg [59]) (restK (adv s 1)) = (some u, restK s3) from e1]; exact ⟨s3, rfl, hS3, rfl⟩⟩
  ·have d2 : decide (¬ x.kind = 2) = true := decide_eq_true k2
   simp only [go_sem, hA, encT, undef, d1, d2]
   refine goCallL [901] [910, 911, 912, 913] 100600 (fail_c s) rfl rfl rfl rfl rfl (by simp only [go_sem, hA]) (fun _ _ h => by cases h) (fun pv h => ?_)
   cases h
   exact ⟨_, rfl, hfail (by rw [hl, decide_eq_false k1, decide_eq_false k2]; rfl)⟩
end
section
open Go Go.RowKit
def AgreeR (n : Nat) (p q : List KT → PR Ex) : Prop := ∀ l, l.length ≤ n → p l = q l
theorem bind_congr {α β : Type} {x : PR α} {f g : α → List KT → PR β} {n : Nat} (h : x.2.length ≤ n) (hf : ∀ a r, r.length ≤ n → f a r = g a r) : x.bind f = x.bind g := by
 obtain ⟨a, r⟩ := x
 cases a with
 | none => rfl
 | some a => exact hf a r h
theorem pTail_agree {p q : List KT → PR Ex} {n : Nat} (h : AgreeR n p q) (a : Ex) (l : List KT) (hl : l.length ≤ n) : pTail p a l = pTail q a l := by
 cases l with
 | nil => rw [pTail, pTail, h _ hl]
 | cons y r =>
  rw [List.length_cons] at hl
  rw [pTail, pTail, h r (by omega), h (y :: r) (by rw [List.length_cons]; omega)]
theorem pIn_agree {p q : List KT → PR Ex} {n : Nat} (h : AgreeR n p q) (hs : Shorter q) (l : List KT) (hl : l.length ≤ n) : pIn p l = pIn q l := by
 have he : ∀ {m} (r : List KT), r.length ≤ m → (q r).2.length ≤ m := fun r hr => Nat.le_trans (hs r) hr
 have h1 : ∀ {m} (x : KT) (r : List KT), r.length ≤ m → (eatT x r).2.length ≤ m := fun x r hr => Nat.le_trans (eat_le x r) hr
 have h2 : ∀ {m} (r : List KT), r.length ≤ m → (pName r).2.length ≤ m := fun r hr => Nat.le_trans (pName_le r) hr
 have key : ∀ {β : Type} (r : List KT) (f g : Ex → List KT → PR β), r.length ≤ n → (∀ a r, r.length ≤ n → f a r = g a r) → (p r).bind f = (q r).bind g := fun r f g hr hf => by
  rw [h r hr]; exact bind_congr (he r hr) hf
 cases l with
 | nil => rw [pIn, pIn]; exact key _ _ _ hl fun a r hr => pTail_agree h a r hr
 | cons y r =>
  rw [List.length_cons] at hl
  have hr : r.length ≤ n := by omega
  have hy : (y :: r).length ≤ n := by rw [List.length_cons]; omega
  rw [pIn, pIn]
  unfold pFun pLet pIf pCase pSum
  repeat' split
  all_goals (repeat' first | rfl | exact pTail_agree h _ _ ‹_› | refine key _ _ _ ‹_› fun _ _ _ => ?_ | refine bind_congr (h1 _ _ ‹_›) fun _ _ _ => ?_ | refine bind_congr (h2 _ ‹_›) fun _ _ _ => ?_)
theorem pE_fuel : ∀ (f g : Nat) (l : List KT), l.length < f → l.length < g → pE f l = pE g l
 | 0, _, _, h, _ => absurd h (Nat.not_lt_zero _)
 | _, 0, _, _, h => absurd h (Nat.not_lt_zero _)
 | f + 1, g + 1, [], _, _ => rfl
 | f + 1, g + 1, y :: r, hf, hg => by
  rw [List.length_cons] at hf hg
  rw [pE, pE]
  split
  ·rw [pIn_agree (n := r.length) (fun l hl => pE_fuel f g l (by omega) (by omega)) (pE_le g) r (Nat.le_refl _)]
  ·rfl
theorem foldD_le (l : List UInt8) : ∀ a : Nat, a ≤ l.foldl (fun a c => 10 * a + (c.toNat - 48)) a := by
 induction l with
 | nil => intro a; exact Nat.le_refl a
 | cons c l ih =>
  intro a
  rw [List.foldl_cons]
  exact Nat.le_trans (by omega) (ih _)
theorem valD_pos {c : UInt8} {l : List UInt8} (h : digitB c = true) (h0 : c.toNat ≠ 48) : valD (c :: l) ≠ 0 := by
 have h1 := foldD_le l (10 * 0 + (c.toNat - 48))
 have h2 : valD (c :: l) = l.foldl (fun a c => 10 * a + (c.toNat - 48)) (10 * 0 + (c.toNat - 48)) := by unfold valD; rw [List.foldl_cons]
 unfold digitB isDigit at h
 simp only [Bool.and_eq_true, decide_eq_true_eq] at h
 omega
theorem core_head {l : List UInt8} (h : numCore l = true) : ∃ c q, l = c :: q ∧ digitB c = true ∧ (c.toNat = 48 → q = []) := by
 unfold numCore at h
 simp only [Bool.and_eq_true, decide_eq_true_eq, Bool.not_eq_true'] at h
 obtain ⟨⟨⟨h1, _⟩, h2⟩, h3⟩ := h
 cases l with
 | nil => simp at h1
 | cons c q =>
  refine ⟨c, q, rfl, by simp only [List.all_cons, Bool.and_eq_true] at h3; exact h3.1, fun e => ?_⟩
  simp only [List.head?_cons, Option.getD_some, e, beq_self_eq_true, Bool.true_and, decide_eq_false_iff_not, List.length_cons] at h2
  cases q with
  | nil => rfl
  | cons d q => simp at h2
theorem numV_zero {l : List UInt8} (h : numberL l = true) (hl : l ≠ [48]) : numV l ≠ 0 := by
 unfold numberL at h
 split at h
 ·rename_i hp
  simp only [Bool.and_eq_true, Bool.not_eq_true'] at h
  obtain ⟨h1, h2⟩ := h
  obtain ⟨c, q, e1, e2, e3⟩ := core_head h1
  cases l with
  | nil => cases e1
  | cons m l =>
   have hm : m = 45 := by
    unfold Lib.hasPrefix at hp
    simp only [List.isPrefixOf, Bool.and_true, beq_iff_eq] at hp
    exact hp.symm
   subst hm
   rw [List.tail_cons] at e1
   subst e1
   unfold numV
   rw [List.head?_cons, if_pos rfl, List.tail_cons]
   have := valD_pos (l := q) e2 (by simpa using h2)
   omega
 ·rename_i hp
  obtain ⟨c, q, rfl, e2, e3⟩ := core_head h
  have hc : c ≠ 45 := by
   rintro rfl
   exact absurd e2 (by decide)
  unfold numV
  rw [List.head?_cons, if_neg (by simpa using hc)]
  have h0 : c.toNat ≠ 48 := fun e => by
   have := e3 e
   subst this
   exact hl (by rw [show c = 48 from UInt8.toNat_inj.1 e])
  have := valD_pos (l := q) e2 h0
  omega
end
section
open Go Go.RowKit
abbrev nilD : D := .raw (.slice none 0 0)
abbrev zeroE : List D := [.raw (.int .i64 0), .raw (.string ⟨#[]⟩), .raw (.string ⟨#[]⟩), .raw (.int .i64 0), .raw (.int .i64 0), nilD]
abbrev dclB (id k : Int) (pub : Bool) (nm : D) (db : Bool) (b : List D) : Blk := .cell 57 ([.d (.raw (.int .i64 id)), .d (.raw (.int .i64 k)), .d (.raw (.bool pub)), .d nm, .d (.raw (.bool db))] ++ b.map .d)
abbrev dclZ : Blk := dclB 0 0 false nilD false zeroE
abbrev dSt (s : RS) (id k : Int) (pub : Bool) (nm : D) (db : Bool) (b : List D) : St := ⟨[(0, .box 901 0), (2, .box 0 0), (3, .d (.raw (.int .i64 0))), (4, .box 1000 0)], [(901, some (rdBlk s)), (0, some dclZ), (1000, some (dclB id k pub nm db b))], (rdL s).toks⟩
abbrev dSt5 (s : RS) (at_ : Nat) (id k : Int) (pub : Bool) (nm : D) (db : Bool) (b : List D) : St := ⟨[(0, .box 901 0), (2, .box 0 0), (3, .d (.raw (.int .i64 0))), (4, .box 1000 0), (5, .d (.raw (.int .i64 at_)))], [(901, some (rdBlk s)), (0, some dclZ), (1000, some (dclB id k pub nm db b))], (rdL s).toks⟩
def encDN (t : List LTok) (d : Dc × Nat) : AV := .tup [avD d.1, .d (.raw (.int .i64 (t.length - d.2 : Nat)))]
theorem pFlag_t {w : List UInt8} {l r : List KT} (h : l = (1, w) :: r) : pFlag w l = (true, r) := by
 rw [h, pFlag, if_pos (show ((1, w) :: r : List KT).head? = some (wd w) from rfl)]; rfl
theorem pFlag_f {w : List UInt8} {l : List KT} (h : l.head? ≠ some (1, w)) : pFlag w l = (false, l) := by
 rw [pFlag, if_neg (show ¬ l.head? = some (wd w) from h)]
theorem pKind_t {l r : List KT} {k : Int} {w : List UInt8} (h : l = (1, w) :: r) (hw : (if (1, w) = wd wLet then (some 1, r) else if (1, w) = wd wTest then (some 2, r) else if (1, w) = wd wFlaky then (some 3, r) else (none, (1, w) :: r)) = (some k, r)) : pKind l = (some k, r) := by
 rw [h, pKind]; exact hw
theorem pKind_f {l : List KT} (h1 : l.head? ≠ some (1, wLet)) (h2 : l.head? ≠ some (1, wTest)) (h3 : l.head? ≠ some (1, wFlaky)) : pKind l = (none, l) := by
 cases l with
 | nil => rfl
 | cons y r =>
  have e : ∀ w, (y :: r).head? ≠ some (1, w) → ¬ y = wd w := fun w h e => h (by rw [e]; rfl)
  rw [pKind, if_neg (e _ h1), if_neg (e _ h2), if_neg (e _ h3)]
theorem pId_t {l r : List KT} (h : l = (4, [64]) :: r) : pId l = pPos r := by
 rw [h, pId, if_pos (show ((4, [64]) :: r : List KT).head? = some (sg [64]) from rfl)]; rfl
theorem pId_f {l : List KT} (h : l.head? ≠ some (4, [64])) : pId l = (some 0, l) := by
 rw [pId, if_neg (show ¬ l.head? = some (sg [64]) from h)]
theorem pPos_zero {y : KT} {r : List KT} (h : y.2 = [48]) : pPos (y :: r) = (none, y :: r) := by
 rw [pPos, if_neg]
 rintro ⟨_, h2⟩
 rw [h] at h2
 exact h2 rfl
theorem pPos_num {y : KT} {r : List KT} (h : y.2 ≠ [48]) : pPos (y :: r) = pNum (y :: r) := by
 rw [pPos, pNum]
 by_cases hn : numT y = true
 ·have h1 : numberL y.2 = true := by unfold numT at hn; simp only [Bool.and_eq_true] at hn; exact hn.2
  rw [if_pos ⟨hn, numV_zero h1 h⟩, if_pos hn]
 ·rw [if_neg (fun h => hn h.1), if_neg hn]
theorem fuel_expr {s : RS} {t : List LTok} (hS : Rdy s t) : pE ((restK s).length + 1) (restK s) = pE (t.length + 1) (restK s) := by
 refine pE_fuel _ _ _ (Nat.lt_succ_self _) ?_
 have := hS.pos
 have h2 : (restK s).length ≤ t.length := by unfold restK; rw [List.length_map, List.length_drop, hS.toks]; omega
 omega
set_option maxRecDepth 100000 in
set_option maxHeartbeats 32000000 in
theorem decl_r (hN : HN) (hM : HM) (hI : HI) (s : RS) (t : List LTok) (hS : Rdy s t) :
  ConL Tryz.prog 62 [.box 901 0] (rdL s) (PostR t (pDecl (t.length + 1) (restK s)) (encDN t)) := by
 have hfw := hS.few
 refine conL_of [901] [910, 911, 912, 913] Tryz.func62 rfl (by decide +kernel) (by simp [Tryz.ntmps62]) fun A hA => ?_
 rw [Tryz.ntmps62] at hA
 refine goMid 300 [0, 2, 3] [901, 0] [910, 911, 912, 913] (fun σ => σ = (⟨[(0, .box 901 0), (2, .box 0 0), (3, .d (.raw (.int .i64 0)))], [(901, some (rdBlk s)), (0, some dclZ)], (rdL s).toks⟩ : St)) (by simp only [go_sem, hA]; rfl) ?_
 rintro σ rfl
 refine goMid 300 [0, 2, 3, 4] [901, 0, 1000] [910, 911, 912, 913] (fun σ => σ = dSt s 0 0 false nilD false zeroE) (by simp only [go_sem, hA]; rfl) ?_
 rintro σ rfl
 refine goMid 100600 [0, 2, 3, 4] [901, 0, 1000] [910, 911, 912, 913] (fun σ => ∃ s1 db, pFlag wConflict (restK s) = (db, restK s1) ∧ Rdy s1 t ∧ σ = dSt s1 0 0 false nilD db zeroE) ?_ ?_
 ·have hat := hS.at_
  simp only [go_sem, hA]
  refine goCallL [901] [910, 911, 912, 913] 100600 (is_r s 1 ⟨#[99, 111, 110, 102, 108, 105, 99, 116]⟩) rfl rfl rfl rfl rfl (by simp only [go_sem, hA]) (fun res L' h => ?_) (fun pv h => by cases h)
  cases h
  cases b1 : isR s 1 ⟨#[99, 111, 110, 102, 108, 105, 99, 116]⟩ with
  | true =>
   obtain ⟨x, h1, h2, h3⟩ := hS.is_t (w := wConflict) b1
   simp only [go_sem, hA]
   exact ⟨by unfold inI64; omega, adv s 1, true, pFlag_t h2, h3, rfl⟩
  | false =>
   have h2 := is_f (w := wConflict) b1
   simp only [go_sem]
   exact ⟨s, false, pFlag_f h2, hS, rfl⟩
 rintro σ ⟨s1, db, hs1, hS1, rfl⟩
 refine goMid 100600 [0, 2, 3, 4] [901, 0, 1000] [910, 911, 912, 913] (fun σ => ∃ s2 pub, pFlag wPub (restK s1) = (pub, restK s2) ∧ Rdy s2 t ∧ σ = dSt s2 0 0 pub nilD db zeroE) ?_ ?_
 ·have hat := hS1.at_
  simp only [go_sem, hA]
  refine goCallL [901] [910, 911, 912, 913] 100600 (is_r s1 1 ⟨#[112, 117, 98]⟩) rfl rfl rfl rfl rfl (by simp only [go_sem, hA]) (fun res L' h => ?_) (fun pv h => by cases h)
  cases h
  cases b1 : isR s1 1 ⟨#[112, 117, 98]⟩ with
  | true =>
   obtain ⟨x, h1, h2, h3⟩ := hS1.is_t (w := wPub) b1
   simp only [go_sem, hA]
   exact ⟨by unfold inI64; omega, adv s1 1, true, pFlag_t h2, h3, rfl⟩
  | false =>
   have h2 := is_f (w := wPub) b1
   simp only [go_sem]
   exact ⟨s1, false, pFlag_f h2, hS1, rfl⟩
 rintro σ ⟨s2, pub, hs2, hS2, rfl⟩
 have hD : pDecl (t.length + 1) (restK s) = pBody (t.length + 1) db pub (restK s2) := by unfold pDecl; rw [hs1]; simp only; rw [hs2]
 rw [hD]
 refine goMid 100600 [0, 2, 3, 4] [901, 0, 1000] [910, 911, 912, 913] (fun σ => ∃ k x, s2.toks[s2.at_]? = some x ∧ pKind (restK s2) = (some k, restK (adv s2 1)) ∧ Rdy (adv s2 1) t ∧ σ = dSt s2 0 k pub nilD db zeroE) ?_ ?_
 ·simp only [go_sem, hA]
  refine goCallL [901] [910, 911, 912, 913] 100600 (is_r s2 1 ⟨#[108, 101, 116]⟩) rfl rfl rfl rfl rfl (by simp only [go_sem, hA]) (fun res L' h => ?_) (fun pv h => by cases h)
  cases h
  cases b1 : isR s2 1 ⟨#[108, 101, 116]⟩ with
  | true =>
   obtain ⟨x, h1, h2, h3⟩ := hS2.is_t (w := wLet) b1
   simp only [go_sem, hA]
   exact ⟨1, x, h1, pKind_t h2 (by simp only [wd, wLet, wTest, wFlaky]; simp), h3, rfl⟩
  | false =>
   simp only [go_sem, hA]
   refine goCallL [901] [910, 911, 912, 913] 100600 (is_r s2 1 ⟨#[116, 101, 115, 116]⟩) rfl rfl rfl rfl rfl (by simp only [go_sem, hA]) (fun res L' h => ?_) (fun pv h => by cases h)
   cases h
   cases b2 : isR s2 1 ⟨#[116, 101, 115, 116]⟩ with
   | true =>
    obtain ⟨x, h1, h2, h3⟩ := hS2.is_t (w := wTest) b2
    simp only [go_sem, hA]
    exact ⟨2, x, h1, pKind_t h2 (by simp only [wd, wLet, wTest, wFlaky]; simp), h3, rfl⟩
   | false =>
    simp only [go_sem, hA]
    refine goCallL [901] [910, 911, 912, 913] 100600 (is_r s2 1 ⟨#[102, 108, 97, 107, 121]⟩) rfl rfl rfl rfl rfl (by simp only [go_sem, hA]) (fun res L' h => ?_) (fun pv h => by cases h)
    cases h
    cases b3 : isR s2 1 ⟨#[102, 108, 97, 107, 121]⟩ with
    | true =>
     obtain ⟨x, h1, h2, h3⟩ := hS2.is_t (w := wFlaky) b3
     simp only [go_sem, hA]
     exact ⟨3, x, h1, pKind_t h2 (by simp only [wd, wLet, wTest, wFlaky]; simp), h3, rfl⟩
    | false =>
     simp only [go_sem, hA]
     refine goCallL [901] [910, 911, 912, 913] 100600 (fail_c s2) rfl rfl rfl rfl rfl (by simp only [go_sem, hA]) (fun _ _ h => by cases h) (fun pv h => ?_)
     cases h
     exact ⟨_, rfl, by unfold pBody; rw [pKind_f (is_f (w := wLet) b1) (is_f (w := wTest) b2) (is_f (w := wFlaky) b3), hS2.pvR]; rfl⟩
 rintro σ ⟨k, x0, hx0, hk, hS3, rfl⟩
 have hat2 := hS2.at_
 have hx1 := (List.getElem?_eq_some_iff.1 hx0).1
 refine goMid 300 [0, 2, 3, 4] [901, 0, 1000] [910, 911, 912, 913] (fun σ => σ = dSt (adv s2 1) 0 k pub nilD db zeroE) ?_ ?_
 ·simp only [go_sem, hA]
  exact ⟨by unfold inI64; omega, rfl⟩
 rintro σ rfl
 refine goMid 300 [0, 2, 3, 4, 5] [901, 0, 1000] [910, 911, 912, 913] (fun σ => σ = dSt5 (adv s2 1) (adv s2 1).at_ 0 k pub nilD db zeroE) (by simp only [go_sem, hA]) ?_
 rintro σ rfl
 refine goMid 300 [0, 2, 3, 4, 5] [901, 0, 1000] [910, 911, 912, 913] (fun σ => ∃ ns s4, pNames (restK (adv s2 1)) = (some ns, restK s4) ∧ Rdy s4 t ∧ σ = dSt5 s4 (adv s2 1).at_ 0 k pub (.sl (encS ns)) db zeroE) ?_ ?_
 ·simp only [go_sem, hA]
  refine goCallL [901] [910, 911, 912, 913] 100600 (sides_r hN (adv s2 1) t hS3) rfl rfl rfl rfl rfl (by simp only [go_sem, hA]) (fun res L' h => ?_) (fun pv h => ?_)
  rotate_left
  ·obtain ⟨r, e1, e2⟩ := h.pan
   subst e2
   exact ⟨_, rfl, by unfold pBody; rw [hk, PR.bind_some, e1]; rfl⟩
  obtain ⟨ns, s4, e1, rfl, rfl, hS4⟩ := h.ret
  simp only [go_sem, hA]
  exact ⟨ns, s4, e1, hS4, rfl⟩
 rintro σ ⟨ns, s4, hns, hS4, rfl⟩
 have hat4 := hS4.at_
 refine goMid 100600 [0, 2, 3, 4, 5] [901, 0, 1000] [910, 911, 912, 913] (fun σ => ∃ i s5, pId (restK s4) = (some i, restK s5) ∧ Rdy s5 t ∧ σ = dSt5 s5 (adv s2 1).at_ i k pub (.sl (encS ns)) db zeroE) ?_ ?_
 ·have hno : ∀ {r}, pId (restK s4) = (none, r) → PostR t (pBody (t.length + 1) db pub (restK s2)) (encDN t) (.pan (pvA (t.length - r.length))) := fun {r} e => by
   unfold pBody; rw [hk, PR.bind_some, hns, PR.bind_some, e]; rfl
  simp only [go_sem, hA]
  refine goCallL [901] [910, 911, 912, 913] 100600 (is_r s4 4 ⟨#[64]⟩) rfl rfl rfl rfl rfl (by simp only [go_sem, hA]) (fun res L' h => ?_) (fun pv h => by cases h)
  cases h
  cases b1 : isR s4 4 ⟨#[64]⟩ with
  | false =>
   simp only [go_sem]
   exact ⟨0, s4, pId_f (is_f (w := [64]) b1), hS4, rfl⟩
  | true =>
   obtain ⟨x, h1, h2, h3⟩ := hS4.is_t (w := [64]) b1
   have hid := pId_t h2
   simp only [go_sem, hA]
   refine ⟨by unfold inI64; omega, ?_⟩
   refine goCallL [901] [910, 911, 912, 913] 100600 (next_r (adv s4 1)) rfl rfl rfl rfl rfl (by simp only [go_sem, hA]) (fun res L' h => ?_) (fun pv h => ?_)
   rotate_left
   ·unfold postNext at h
    rcases h3.cases with ⟨g1, g2⟩ | ⟨z, g1, g2, g3⟩
    ·rw [g1] at h
     cases h
     exact ⟨_, rfl, by rw [h3.pvR]; exact hno (by rw [hid, g2]; rfl)⟩
    ·rw [g1] at h; cases h
   unfold postNext at h
   rcases h3.cases with ⟨g1, g2⟩ | ⟨z, g1, g2, g3⟩
   ·rw [g1] at h; cases h
   rw [g1] at h
   cases h
   by_cases hz : z.text = [48]
   ·have d1 : decide ((⟨z.text.toArray⟩ : ByteArray) = ⟨#[48]⟩) = true := decide_eq_true (by rw [hz])
    simp only [go_sem, hA, encT, d1]
    refine goCallL [901] [910, 911, 912, 913] 100600 (fail_c (adv s4 1)) rfl rfl rfl rfl rfl (by simp only [go_sem, hA]) (fun _ _ h => by cases h) (fun pv h => ?_)
    cases h
    exact ⟨_, rfl, by rw [h3.pvR]; exact hno (by rw [hid, g2, pPos_zero hz])⟩
   ·have d1 : decide ((⟨z.text.toArray⟩ : ByteArray) = ⟨#[48]⟩) = false := decide_eq_false fun e => hz (bsL_inj (b := [48]) e)
    simp only [go_sem, hA, encT, d1]
    refine goCallL [901] [910, 911, 912, 913] 100600 (number_r mfK nvK hM hI (adv s4 1) h3.few') rfl rfl rfl rfl rfl (by simp only [go_sem, hA]) (fun res L' h => ?_) (fun pv h => ?_)
    rotate_left
    ·obtain ⟨r, e1, e2⟩ := (h3.num h).pan
     subst e2
     exact ⟨_, rfl, hno (by rw [hid, g2, pPos_num hz, ← g2]; exact e1)⟩
    obtain ⟨i, s5, e1, rfl, rfl, hS5⟩ := (h3.num h).ret
    simp only [go_sem, hA]
    exact ⟨i, s5, by rw [hid, g2, pPos_num hz, ← g2]; exact e1, hS5, rfl⟩
 rintro σ ⟨i, s5, hid, hS5, rfl⟩
 refine goC 100600 ?_
 simp only [go_sem, hA]
 refine goCallL [901] [910, 911, 912, 913] 100600 (expect_r s5 4 ⟨#[61]⟩ hS5.few') rfl rfl rfl rfl rfl (by simp only [go_sem, hA]) (fun res L' h => ?_) (fun pv h => ?_)
 rotate_left
 ·obtain ⟨r, e1, e2⟩ := (hS5.expect 4 [61] h).pan
  subst e2
  exact ⟨_, rfl, by unfold pBody; rw [hk, PR.bind_some, hns, PR.bind_some, hid, PR.bind_some, show eatT (sg [61]) (restK s5) = (none, r) from e1]; rfl⟩
 obtain ⟨u, s6, he6, rfl, rfl, hS6⟩ := (hS5.expect 4 [61] h).ret
 simp only [go_sem, hA]
 refine goCallL [901] [910, 911, 912, 913] 100600 (expr_r hN hM hI s6 t hS6) rfl rfl rfl rfl rfl (by simp only [go_sem, hA]) (fun res L' h => ?_) (fun pv h => ?_)
 rotate_left
 ·rw [fuel_expr hS6] at h
  obtain ⟨r, e1, e2⟩ := h.pan
  subst e2
  exact ⟨_, rfl, by unfold pBody; rw [hk, PR.bind_some, hns, PR.bind_some, hid, PR.bind_some, show eatT (sg [61]) (restK s5) = (some u, restK s6) from he6, PR.bind_some, e1]; rfl⟩
 rw [fuel_expr hS6] at h
 obtain ⟨e, s7, he7, rfl, rfl, hS7⟩ := h.ret
 simp only [go_sem, hA, avE_eq]
 refine goCallL [901] [910, 911, 912, 913] 100600 (expect_r s7 4 ⟨#[59]⟩ hS7.few') rfl rfl rfl rfl rfl (by simp only [go_sem, hA]) (fun res L' h => ?_) (fun pv h => ?_)
 rotate_left
 ·obtain ⟨r, e1, e2⟩ := (hS7.expect 4 [59] h).pan
  subst e2
  exact ⟨_, rfl, by unfold pBody; rw [hk, PR.bind_some, hns, PR.bind_some, hid, PR.bind_some, show eatT (sg [61]) (restK s5) = (some u, restK s6) from he6, PR.bind_some, he7, PR.bind_some, show eatT (sg [59]) (restK s7) = (none, r) from e1]; rfl⟩
 obtain ⟨u8, s8, he8, rfl, rfl, hS8⟩ := (hS7.expect 4 [59] h).ret
 simp only [go_sem, hA, Tryz.results62]
 refine ⟨_, rfl, rfl, ?_⟩
 unfold pBody
 rw [hk, PR.bind_some, hns, PR.bind_some, hid, PR.bind_some, show eatT (sg [61]) (restK s5) = (some u, restK s6) from he6, PR.bind_some, he7, PR.bind_some, show eatT (sg [59]) (restK s7) = (some u8, restK s8) from he8, PR.bind_some]
 exact ⟨s8, by unfold encDN; rw [hS3.pos]; rfl, hS8, rfl⟩
end
end Go.Proofs.YtnnolijagpakiaaGreatDoor
