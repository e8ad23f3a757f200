/- Texts of this proof, part 21: what the proof uses of them. -/
import Derived.Test.YtnnolijagpakiaaGreatDoorVat
import Derived.Test.YtnnolijagpakiaaGreatDoorVao
namespace Go.Proofs.YtnnolijagpakiaaGreatDoor
section
open Go Go.RowKit
abbrev bT (x : LTok) : ByteArray := ⟨x.text.toArray⟩
def pushPt (s : RS) (e : Ex) : RS := { s with pt := s.pt.push (encE e) }
def adv (s : RS) (n : Nat) : RS := { s with at_ := s.at_ + n }
def postDot (nf : LTok → Bool) (s : RS) (n : ByteArray) (o : Out) : Prop :=
 if isR s 4 ⟨#[46]⟩ = true then match s.toks[s.at_ + 1]? with
  | some y => if nf y = true then o = .ret (.tup []) (rdL (pushPt (adv s 2) (.mk 4 n (bT y) 0 0 []))) else o = .pan (pvR (adv s 1))
  | none => o = .pan (pvR (adv s 1))
 else o = .ret (.tup []) (rdL (pushPt s (.mk 3 n ⟨#[]⟩ 0 0 [])))
def postStart (nf mf : LTok → Bool) (nv : LTok → Int) (s : RS) (o : Out) : Prop := match s.toks[s.at_]? with
 | some x =>
  if mf x = true then o = .ret (.tup []) (rdL (pushPt (adv s 1) (.mk 1 ⟨#[]⟩ ⟨#[]⟩ (nv x) 0 [])))
  else if isR s 1 ⟨#[116, 114, 117, 101]⟩ = true then o = .ret (.tup []) (rdL (pushPt (adv s 1) (.mk 2 ⟨#[]⟩ ⟨#[]⟩ 1 0 [])))
  else if isR s 1 ⟨#[102, 97, 108, 115, 101]⟩ = true then o = .ret (.tup []) (rdL (pushPt (adv s 1) (.mk 2 ⟨#[]⟩ ⟨#[]⟩ 0 0 [])))
  else if isR s 1 ⟨#[110, 105, 108]⟩ = true then o = .ret (.tup []) (rdL (pushPt (adv s 1) (.mk 11 ⟨#[]⟩ ⟨#[]⟩ 0 0 [])))
  else if nf x = true then postDot nf (adv s 1) (bT x) o
  else if isR s 4 ⟨#[40]⟩ = true then postBracket (adv s 1) o
  else o = .pan (pvR s)
 | none => o = .pan (pvR s)
theorem postBracket_ret {s : RS} {res : AV} {L' : Lent} (h : postBracket s (.ret res L')) : ∃ s2, res = .tup [] ∧ L' = rdL s2 := by
 unfold postBracket at h
 repeat' split at h
 all_goals first | (cases h; done) | (cases h; exact ⟨_, rfl, rfl⟩)
structure RoomE (s : RS) : Prop where
 le : s.pt.len ≤ s.pt.rows.length
 lt : s.pt.len ≤ 1073741824
set_option maxRecDepth 100000 in
set_option maxHeartbeats 16000000 in
theorem start_r (nf mf : LTok → Bool) (nv : LTok → Int) (hN : ∀ x : LTok, Con Tryz.prog 135 [avT x] (.d (.raw (.bool (nf x))))) (hM : ∀ x : LTok, Con Tryz.prog 136 [avT x] (.d (.raw (.bool (mf x)))))
  (hI : ∀ x : LTok, mf x = true → Con Tryz.prog 137 [.d (.raw (.string ⟨x.text.toArray⟩))] (.tup [.d (.raw (.int .i64 (nv x))), .d (.raw .nilIface)])) (s : RS) (hr : Room s 20) (he : RoomE s) (ht : s.toks.length ≤ 1048576) :
  ConL Tryz.prog 80 [.box 901 0, .mapd restKs restCs] (rdL s) (postStart nf mf nv s) := by
 have hle := he.le
 have hlt := he.lt
 have hsl : (List.take s.pt.len s.pt.rows).length = s.pt.len := by rw [List.length_take]; omega
 have g1 : (List.take s.pt.len s.pt.rows ++ [[D.raw (.int .i64 0), D.raw (.string ⟨#[]⟩), D.raw (.string ⟨#[]⟩), D.raw (.int .i64 0), D.raw (.int .i64 0), D.sl []]]).getD s.pt.len [] = [D.raw (.int .i64 0), D.raw (.string ⟨#[]⟩), D.raw (.string ⟨#[]⟩), D.raw (.int .i64 0), D.raw (.int .i64 0), D.sl []] := by
  rw [List.getD_eq_getElem?_getD, List.getElem?_append_right (by omega), hsl, Nat.sub_self]; rfl
 have g2 : ∀ r, (List.take s.pt.len s.pt.rows ++ [[D.raw (.int .i64 0), D.raw (.string ⟨#[]⟩), D.raw (.string ⟨#[]⟩), D.raw (.int .i64 0), D.raw (.int .i64 0), D.sl []]]).set s.pt.len r = List.take s.pt.len s.pt.rows ++ [r] := fun r => by
  rw [List.set_append_right _ _ (by omega), hsl, Nat.sub_self]; rfl
 have g3 : s.pt.len < (List.take s.pt.len s.pt.rows ++ [[D.raw (.int .i64 0), D.raw (.string ⟨#[]⟩), D.raw (.string ⟨#[]⟩), D.raw (.int .i64 0), D.raw (.int .i64 0), D.sl []]]).length := by
  rw [List.length_append, hsl]; simp
 refine conL_of [901] [910, 911, 912, 913] Tryz.func80 rfl (by decide +kernel) (by simp [Tryz.ntmps80]) fun A hA => ?_
 rw [Tryz.ntmps80] at hA
 refine goC 100600 ?_
 simp only [go_sem, hA]
 refine goCallL [901] [910, 911, 912, 913] 100600 (next_r s) rfl rfl rfl rfl rfl (by simp only [go_sem, hA]) (fun res L' h => ?_) (fun pv h => ?_)
 rotate_left
 ·cases hp : s.toks[s.at_]? with
  | none => unfold postNext at h; rw [hp] at h; cases h; exact ⟨_, rfl, by unfold postStart; rw [hp]⟩
  | some x => unfold postNext at h; rw [hp] at h; cases h
 cases hp : s.toks[s.at_]? with
 | none => unfold postNext at h; rw [hp] at h; cases h
 | some x =>
  have hl := (List.getElem?_eq_some_iff.1 hp).1
  unfold postNext at h
  rw [hp] at h
  cases h
  simp only [go_sem, hA, encT]
  refine goCall 100600 (hM x) rfl (by simp only [go_sem]) (by simp only [go_sem, hA]) ?_
  cases hm : mf x with
  | true =>
   simp only [go_sem, hA]
   refine goCallL [901] [910, 911, 912, 913] 100600 (number_r mf nv hM hI s ht) rfl rfl rfl rfl rfl (by simp only [go_sem, hA]) (fun res L' h => ?_) (fun pv h => ?_)
   rotate_left
   ·unfold postNum at h; rw [hp] at h; simp only [hm, if_true] at h; cases h
   unfold postNum at h
   rw [hp] at h
   simp only [hm, if_true] at h
   cases h
   simp only [go_sem, hA]
   refine go_ok 300 _ _ _ _ ?_
   simp only [go_sem, hA, mixed, Int.toNat_natCast, Nat.zero_add, g1, g2]
   exact ⟨⟨encL_fit [.mk 0 ⟨#[]⟩ ⟨#[]⟩ 0 0 []], hle, by omega⟩, ⟨by omega, by omega⟩, g3, by kernel_rfl, .tup [], rfl, rfl, by unfold postStart; rw [hp]; simp only [hm, if_true]; rfl⟩
  | false =>
   simp only [go_sem, hA]
   refine goCallL [901] [910, 911, 912, 913] 100600 (is_r (s) 1 ⟨#[116, 114, 117, 101]⟩) rfl rfl rfl rfl rfl (by simp only [go_sem, hA]) (fun res L' h => ?_) (fun pv h => by cases h)
   cases h
   cases b1 : isR (s) 1 ⟨#[116, 114, 117, 101]⟩ with
   | true =>
    simp only [go_sem, hA]
    refine ⟨by unfold inI64; omega, ?_⟩
    refine go_ok 300 _ _ _ _ ?_
    simp only [go_sem, hA, mixed, Int.toNat_natCast, Nat.zero_add, g1, g2]
    exact ⟨⟨encL_fit [.mk 0 ⟨#[]⟩ ⟨#[]⟩ 0 0 []], hle, by omega⟩, ⟨by omega, by omega⟩, g3, by kernel_rfl, .tup [], rfl, rfl, by unfold postStart; rw [hp]; simp only [hm, Bool.false_eq_true, if_false, b1, if_true]; rfl⟩
   | false =>
    simp only [go_sem, hA]
    refine goCallL [901] [910, 911, 912, 913] 100600 (is_r (s) 1 ⟨#[102, 97, 108, 115, 101]⟩) rfl rfl rfl rfl rfl (by simp only [go_sem, hA]) (fun res L' h => ?_) (fun pv h => by cases h)
    cases h
    cases b2 : isR (s) 1 ⟨#[102, 97, 108, 115, 101]⟩ with
    | true =>
     simp only [go_sem, hA]
     refine ⟨by unfold inI64; omega, ?_⟩
     refine go_ok 300 _ _ _ _ ?_
     simp only [go_sem, hA, mixed, Int.toNat_natCast, Nat.zero_add, g1, g2]
     exact ⟨⟨encL_fit [.mk 0 ⟨#[]⟩ ⟨#[]⟩ 0 0 []], hle, by omega⟩, ⟨by omega, by omega⟩, g3, by kernel_rfl, .tup [], rfl, rfl, by unfold postStart; rw [hp]; simp only [hm, Bool.false_eq_true, if_false, b1, b2, if_true]; rfl⟩
    | false =>
     simp only [go_sem, hA]
     refine goCallL [901] [910, 911, 912, 913] 100600 (is_r (s) 1 ⟨#[110, 105, 108]⟩) rfl rfl rfl rfl rfl (by simp only [go_sem, hA]) (fun res L' h => ?_) (fun pv h => by cases h)
     cases h
     cases b3 : isR (s) 1 ⟨#[110, 105, 108]⟩ with
     | true =>
      simp only [go_sem, hA]
      refine ⟨by unfold inI64; omega, ?_⟩
      refine go_ok 300 _ _ _ _ ?_
      simp only [go_sem, hA, mixed, Int.toNat_natCast, Nat.zero_add, g1, g2]
      exact ⟨⟨encL_fit [.mk 0 ⟨#[]⟩ ⟨#[]⟩ 0 0 []], hle, by omega⟩, ⟨by omega, by omega⟩, g3, by kernel_rfl, .tup [], rfl, rfl, by unfold postStart; rw [hp]; simp only [hm, Bool.false_eq_true, if_false, b1, b2, b3, if_true]; rfl⟩
     | false =>
      simp only [go_sem, hA]
      refine goCall 100600 (hN x) rfl (by simp only [go_sem]) (by simp only [go_sem, hA]) ?_
      cases hn : nf x with
      | true =>
       simp only [go_sem, hA]
       refine goCallL [901] [910, 911, 912, 913] 100600 (name_r nf hN s ht) rfl rfl rfl rfl rfl (by simp only [go_sem, hA]) (fun res L' h => ?_) (fun pv h => ?_)
       rotate_left
       ·unfold postName at h; rw [hp] at h; simp only [hn, if_true] at h; cases h
       unfold postName at h
       rw [hp] at h
       simp only [hn, if_true] at h
       cases h
       simp only [go_sem, hA]
       refine goCallL [901] [910, 911, 912, 913] 100600 (is_r ({ s with at_ := s.at_ + 1 }) 4 ⟨#[46]⟩) rfl rfl rfl rfl rfl (by simp only [go_sem, hA]) (fun res L' h => ?_) (fun pv h => by cases h)
       cases h
       cases b4 : isR ({ s with at_ := s.at_ + 1 }) 4 ⟨#[46]⟩ with
       | true =>
        simp only [go_sem, hA]
        refine ⟨by have := isR_lt b4; simp only at this; unfold inI64; omega, ?_⟩
        refine goDrawnL 100600 mixed ?_
        refine dCall 3 [3, 4, 5] [901] [910, 911, 912, 913] (name_r nf hN { s with at_ := s.at_ + 1 + 1 } ht) [] rfl rfl rfl (by kernel_rfl) rfl (by simp only [go_sem]) (by kernel_rfl) (by simp only [go_sem, hA]) ?_
        simp only [go_sem, hA]
        refine ⟨by kernel_rfl, fun y L' h => ?_, fun pv h => ?_⟩
        rotate_left
        ·unfold postName at h
         refine ⟨pv, rfl, ?_⟩
         unfold postStart; rw [hp]; simp only [hm, b1, b2, b3, hn, Bool.false_eq_true, if_false, if_true]; unfold postDot; rw [show isR (adv s 1) 4 ⟨#[46]⟩ = true from b4]; simp only [if_true]
         cases hq : s.toks[s.at_ + 1 + 1]? with
         | none =>
          simp only [hq] at h
          cases h
          rw [show (adv s 1).toks[(adv s 1).at_ + 1]? = none from hq]; rfl
         | some y =>
          simp only [hq] at h
          rw [show (adv s 1).toks[(adv s 1).at_ + 1]? = some y from hq]
          simp only
          split at h
          ·cases h
          ·rename_i hny; cases h; rw [if_neg hny]; rfl
        unfold postName at h
        cases hq : s.toks[s.at_ + 1 + 1]? with
        | none => simp only [hq] at h; cases h
        | some z =>
         simp only [hq] at h
         split at h
         rotate_left
         ·cases h
         rename_i hnz
         cases h
         refine dFin ?_
         simp only [go_sem, hA]
         refine ⟨by kernel_rfl, ?_⟩
         refine go_ok 300 _ _ _ _ ?_
         simp only [go_sem, hA, mixed, Int.toNat_natCast, Nat.zero_add, g1, g2]
         exact ⟨⟨encL_fit [.mk 0 ⟨#[]⟩ ⟨#[]⟩ 0 0 []], hle, by omega⟩, ⟨by omega, by omega⟩, g3, by kernel_rfl, .tup [], rfl, rfl, by unfold postStart; rw [hp]; simp only [hm, b1, b2, b3, hn, Bool.false_eq_true, if_false, if_true]; unfold postDot; rw [show isR (adv s 1) 4 ⟨#[46]⟩ = true from b4]; simp only [if_true]; rw [show (adv s 1).toks[(adv s 1).at_ + 1]? = some z from hq]; simp only [hnz, if_true]; rfl⟩
       | false =>
        simp only [go_sem]
        refine go_ok 300 _ _ _ _ ?_
        simp only [go_sem, hA, mixed, Int.toNat_natCast, Nat.zero_add, g1, g2]
        exact ⟨⟨encL_fit [.mk 0 ⟨#[]⟩ ⟨#[]⟩ 0 0 []], hle, by omega⟩, ⟨by omega, by omega⟩, g3, by kernel_rfl, .tup [], rfl, rfl, by unfold postStart; rw [hp]; simp only [hm, b1, b2, b3, hn, Bool.false_eq_true, if_false, if_true]; unfold postDot; rw [show isR (adv s 1) 4 ⟨#[46]⟩ = false from b4]; rfl⟩
      | false =>
       simp only [go_sem, hA]
       refine goCallL [901] [910, 911, 912, 913] 100600 (expect_r s 4 ⟨#[40]⟩ ht) rfl rfl rfl rfl rfl (by simp only [go_sem, hA]) (fun res L' h => ?_) (fun pv h => ?_)
       rotate_left
       ·unfold postExpect at h
        split at h
        ·cases h
        ·rename_i b5; cases h; exact ⟨_, rfl, by unfold postStart; rw [hp]; simp only [hm, b1, b2, b3, hn, b5, Bool.false_eq_true, if_false]⟩
       unfold postExpect at h
       split at h
       rotate_left
       ·cases h
       rename_i b5
       cases h
       simp only [go_sem, hA]
       refine goCallL [901] [910, 911, 912, 913] 100600 (bracket_r { s with at_ := s.at_ + 1 } ⟨hr.le, hr.lt⟩ ht) rfl rfl rfl rfl rfl (by simp only [go_sem, hA]) (fun res L' h => ?_) (fun pv h => ?_)
       rotate_left
       ·exact ⟨_, rfl, by unfold postStart; rw [hp]; simp only [hm, b1, b2, b3, hn, b5, Bool.false_eq_true, if_false, if_true]; exact h⟩
       obtain ⟨s2, rfl, rfl⟩ := postBracket_ret h
       simp only [go_sem]
       exact ⟨.tup [], rfl, rfl, by unfold postStart; rw [hp]; simp only [hm, b1, b2, b3, hn, b5, Bool.false_eq_true, if_false, if_true]; exact h⟩
end
section
open Go Go.RowKit
def restK (s : RS) : List KT := (s.toks.drop s.at_).map kt
abbrev nfK (x : LTok) : Bool := nameT (kt x)
abbrev mfK (x : LTok) : Bool := numT (kt x)
abbrev nvK (x : LTok) : Int := numV x.text
def pvP : Pt → PV
 | .word s => pvW (bsL s)
 | .sign s => pvS (bsL s)
 | .name => pvO 3
 | .number => pvO 4
 | .expr => pvO 5
 | .tail => pvO 6
 | .join k op a b c => ⟨7, ⟨#[]⟩, k, op, a, b, c⟩
def encTd (l : List Pt) : List (List D) := l.reverse.map fun p => encPV (pvP p)
structure RelM (s : RS) (m : Mch) : Prop where
 td : Holds s.td (encTd m.todo)
 nm : Holds s.nm (m.nm.map encN)
 ni : Holds s.ni (m.ni.map encI)
 pt : Holds s.pt (encL m.su)
 at_ : s.at_ ≤ s.toks.length
theorem rest_cases (s : RS) : (s.toks[s.at_]? = none ∧ restK s = []) ∨ ∃ x, s.toks[s.at_]? = some x ∧ restK s = kt x :: restK (adv s 1) := by
 unfold restK
 by_cases h : s.at_ < s.toks.length
 ·right
  refine ⟨s.toks[s.at_], List.getElem?_eq_getElem h, ?_⟩
  rw [List.drop_eq_getElem_cons h]; rfl
 ·left
  refine ⟨List.getElem?_eq_none (by omega), ?_⟩
  rw [List.drop_eq_nil_of_le (by omega)]; rfl
theorem rest_len (s : RS) (h : s.at_ ≤ s.toks.length) : s.toks.length - (restK s).length = s.at_ := by
 unfold restK
 rw [List.length_map, List.length_drop]; omega
theorem adv_le {s : RS} {x : LTok} (h : s.toks[s.at_]? = some x) : (adv s 1).at_ ≤ (adv s 1).toks.length := by
 have := (List.getElem?_eq_some_iff.1 h).1
 exact this
theorem bsL_inj {a b : List UInt8} (h : bsL a = bsL b) : a = b := by
 have := congrArg (fun x : ByteArray => x.data.toList) h
 simpa using this
theorem kt_eq (x : LTok) (k : Int) (t : List UInt8) : (decide (x.kind = k) && decide ((⟨x.text.toArray⟩ : ByteArray) = bsL t)) = decide (kt x = (k, t)) := by
 rw [Bool.eq_iff_iff]
 simp only [Bool.and_eq_true, decide_eq_true_eq, kt, Prod.mk.injEq]
 exact and_congr Iff.rfl ⟨fun h => bsL_inj h, fun h => by rw [h]⟩
theorem isR_eq (s : RS) (k : Int) (t : List UInt8) : isR s k (bsL t) = match restK s with
  | y :: _ => decide (y = (k, t))
  | [] => false := by
 unfold isR
 rcases rest_cases s with ⟨h1, h2⟩ | ⟨x, h1, h2⟩
 ·rw [h1, h2]
 ·rw [h1, h2]; exact kt_eq x k t
abbrev pvA (n : Nat) : Value := .iface 102 (.agg #[.int .i64 n])
def StepPost (s : RS) (R : PR Mch) (o : Out) : Prop := match R with
 | (some m, r) => ∃ s' res, o = .ret res (rdL s') ∧ RelM s' m ∧ restK s' = r ∧ s'.toks = s.toks
 | (none, r) => o = .pan (pvA (s.toks.length - r.length))
theorem RelM.adv {s : RS} {m : Mch} {x : LTok} (h : RelM s m) (hx : s.toks[s.at_]? = some x) : RelM (adv s 1) m := ⟨h.td, h.nm, h.ni, h.pt, adv_le hx⟩
theorem pan_eq {s : RS} (h : s.at_ ≤ s.toks.length) : Out.pan (pvR s) = .pan (pvA (s.toks.length - (restK s).length)) := by rw [rest_len s h]
theorem eat_post {s : RS} {m : Mch} (h : RelM s m) (k : Int) (t : List UInt8) {o : Out} (ho : postExpect s k (bsL t) o) : StepPost s ((eatT (k, t) (restK s)).bind fun _ r => (some m, r)) o := by
 unfold postExpect at ho
 rw [isR_eq] at ho
 rcases rest_cases s with ⟨h1, h2⟩ | ⟨x, h1, h2⟩
 ·rw [h2] at ho ⊢
  simp only [Bool.false_eq_true, if_false] at ho
  rw [ho, pan_eq h.at_, h2]; rfl
 ·rw [h2] at ho ⊢
  simp only [decide_eq_true_eq] at ho
  rw [eatT]
  split at ho
  ·rename_i e
   rw [if_pos e]
   exact ⟨adv s 1, _, ho, h.adv h1, rfl, rfl⟩
  ·rename_i e
   rw [if_neg e]
   show o = .pan _
   rw [ho, pan_eq h.at_, h2]
theorem name_cases {s : RS} (hs : s.at_ ≤ s.toks.length) {o : Out} (ho : postName nfK s o) :
  (∃ x, s.toks[s.at_]? = some x ∧ o = .ret (.d (.raw (.string (bT x)))) (rdL (adv s 1)) ∧ pName (restK s) = (some (bT x), restK (adv s 1))) ∨ (o = .pan (pvA (s.toks.length - (restK s).length)) ∧ pName (restK s) = (none, restK s)) := by
 unfold postName at ho
 rcases rest_cases s with ⟨h1, h2⟩ | ⟨x, h1, h2⟩
 ·rw [h1] at ho
  right
  refine ⟨ho.trans (pan_eq hs), ?_⟩
  rw [h2]; rfl
 ·rw [h1] at ho
  simp only at ho
  split at ho
  ·rename_i hn
   left
   refine ⟨x, h1, ho, ?_⟩
   rw [h2, pName, if_pos hn]; rfl
  ·rename_i hn
   right
   refine ⟨ho.trans (pan_eq hs), ?_⟩
   rw [h2, pName, if_neg hn]
theorem num_cases {s : RS} (hs : s.at_ ≤ s.toks.length) {o : Out} (ho : postNum mfK nvK s o) :
  (∃ x, s.toks[s.at_]? = some x ∧ o = .ret (.d (.raw (.int .i64 (nvK x)))) (rdL (adv s 1)) ∧ pNum (restK s) = (some (nvK x), restK (adv s 1))) ∨ (o = .pan (pvA (s.toks.length - (restK s).length)) ∧ pNum (restK s) = (none, restK s)) := by
 unfold postNum at ho
 rcases rest_cases s with ⟨h1, h2⟩ | ⟨x, h1, h2⟩
 ·rw [h1] at ho
  right
  refine ⟨ho.trans (pan_eq hs), ?_⟩
  rw [h2]; rfl
 ·rw [h1] at ho
  simp only at ho
  split at ho
  ·rename_i hn
   left
   refine ⟨x, h1, ho, ?_⟩
   rw [h2, pNum, if_pos hn]; rfl
  ·rename_i hn
   right
   refine ⟨ho.trans (pan_eq hs), ?_⟩
   rw [h2, pNum, if_neg hn]
theorem encL_snoc (l : List Ex) (e : Ex) : encL (l ++ [e]) = encL l ++ [encE e] := by simp [encL_map]
theorem RelM.pushPt {s : RS} {m : Mch} (h : RelM s m) (e : Ex) : RelM (pushPt s e) { m with su := m.su ++ [e] } := ⟨h.td, h.nm, h.ni, by rw [encL_snoc]; exact h.pt.push _, h.at_⟩
theorem addTd_td (ps : List PV) : ∀ s : RS, (ps.foldl pushTd s) = { s with td := (ps.foldl pushTd s).td } := by
 induction ps with
 | nil => intro s; rfl
 | cons p ps ih =>
  intro s
  rw [List.foldl_cons, ih (pushTd s p)]
  rfl
theorem holds_push (ps : List PV) : ∀ (s : RS) (l : List (List D)), Holds s.td l → Holds (ps.foldl pushTd s).td (l ++ ps.map encPV) := by
 induction ps with
 | nil => intro s l h; simpa using h
 | cons p ps ih =>
  intro s l h
  rw [List.foldl_cons]
  have := ih (pushTd s p) (l ++ [encPV p]) (h.push _)
  simpa using this
theorem RelM.add {s : RS} {m : Mch} (h : RelM s m) (pts : List Pt) : RelM (addTd s (pts.map pvP)) { m with todo := pts ++ m.todo } ∧ restK (addTd s (pts.map pvP)) = restK s ∧ (addTd s (pts.map pvP)).toks = s.toks := by
 unfold addTd
 have h1 := holds_push (pts.map pvP).reverse s _ h.td
 rw [addTd_td]
 refine ⟨⟨?_, h.nm, h.ni, h.pt, h.at_⟩, rfl, rfl⟩
 have e : encTd (pts ++ m.todo) = encTd m.todo ++ List.map encPV (List.map pvP pts).reverse := by
  unfold encTd
  rw [List.reverse_append, List.map_append, ← List.map_reverse, List.map_map]; rfl
 rw [e]
 exact h1
theorem restOf_eq (z : LTok) : (restP (kt z)).map (·.map pvP) = if z.kind = 1 then restOf (bT z) else none := by
 have hw : ∀ t : List UInt8, kt z = wd t ↔ z.kind = 1 ∧ bT z = bsL t := fun t => by
  unfold kt wd
  rw [Prod.mk.injEq]
  exact and_congr Iff.rfl ⟨fun h => by unfold bT; rw [h], fun h => bsL_inj h⟩
 unfold restP restOf
 by_cases hk : z.kind = 1
 ·rw [if_pos hk]
  simp only [hw, hk, true_and]
  show _ = if bT z = bsL wFun then _ else if bT z = bsL wLet then _ else if bT z = bsL wIf then _ else if bT z = bsL wCase then _ else if bT z = bsL wChance then _ else if bT z = bsL wConflict then _ else _
  repeat' split
  all_goals rfl
 ·rw [if_neg hk]
  simp only [hw, hk, false_and, if_false]; rfl
theorem tailOf_eq (z : LTok) : ∃ j, (tailP (kt z)).1 = [.expr, .sign [41], j] ∧ pvP j = (tailOf z.kind (bT z)).1 ∧ (tailP (kt z)).2 = (tailOf z.kind (bT z)).2 := by
 unfold tailP tailOf
 by_cases hk : z.kind = 4
 ·rw [if_pos hk]
  have ho : opT (kt z) = decide (bT z = ⟨#[43]⟩ ∨ bT z = ⟨#[45]⟩ ∨ bT z = ⟨#[42]⟩ ∨ bT z = ⟨#[61]⟩ ∨ bT z = ⟨#[60]⟩) := by
   unfold opT
   rw [show (kt z).1 = 4 from hk]
   show (true && hasB opNames (bT z)) = _
   rw [Bool.true_and, Bool.eq_iff_iff, decide_eq_true_eq]
   unfold hasB opNames
   simp only [List.any_cons, List.any_nil, Bool.or_false, Bool.or_eq_true, decide_eq_true_eq]
   exact ⟨fun h => by rcases h with h | h | h | h | h <;> simp [← h], fun h => by rcases h with h | h | h | h | h <;> simp [h]⟩
  rw [ho]
  by_cases h1 : bT z = ⟨#[43]⟩ ∨ bT z = ⟨#[45]⟩ ∨ bT z = ⟨#[42]⟩ ∨ bT z = ⟨#[61]⟩ ∨ bT z = ⟨#[60]⟩
  ·rw [if_pos h1, if_pos (decide_eq_true h1)]
   exact ⟨_, rfl, rfl, rfl⟩
  ·rw [if_neg h1, if_neg (by rw [decide_eq_false h1]; decide)]
   by_cases h2 : bT z = bsL [58, 58]
   ·have : kt z = sg [58, 58] := Prod.ext hk (bsL_inj h2)
    rw [if_pos this, if_pos (show bT z = ⟨#[58, 58]⟩ from h2)]
    exact ⟨_, rfl, rfl, rfl⟩
   ·have : ¬ kt z = sg [58, 58] := fun e => h2 (by unfold bT; rw [show z.text = [58, 58] from congrArg Prod.snd e])
    rw [if_neg this, if_neg (show ¬ bT z = ⟨#[58, 58]⟩ from h2)]
    exact ⟨_, rfl, rfl, rfl⟩
 ·rw [if_neg hk]
  have ho : opT (kt z) = false := by
   unfold opT
   rw [decide_eq_false (show ¬ (kt z).1 = 4 from hk)]; rfl
  rw [ho]
  have : ¬ kt z = sg [58, 58] := fun e => hk (congrArg Prod.fst e)
  rw [if_neg this]
  exact ⟨_, rfl, rfl, rfl⟩
theorem tail_post {s : RS} {m : Mch} (h : RelM s m) {o : Out} (ho : postTail s o) : StepPost s (stepP .tail m (restK s)) o := by
 unfold postTail at ho
 rcases rest_cases s with ⟨h1, h2⟩ | ⟨x, h1, h2⟩
 ·rw [h1] at ho
  rw [h2]
  show o = .pan _
  rw [ho, pan_eq h.at_, h2]
 ·rw [h1] at ho
  rw [h2]
  obtain ⟨j, e1, e2, e3⟩ := tailOf_eq x
  simp only [stepP]
  rw [e1, e3]
  have hst : RelM (tailS s x) m ∧ restK (tailS s x) = (if (tailOf x.kind (bT x)).2 = true then restK (adv s 1) else kt x :: restK (adv s 1)) ∧ (tailS s x).toks = s.toks := by
   unfold tailS
   by_cases hb : (tailOf x.kind (bT x)).2 = true
   ·rw [if_pos hb, if_pos hb]; exact ⟨h.adv h1, rfl, rfl⟩
   ·rw [if_neg hb, if_neg hb]; exact ⟨h, h2, rfl⟩
  obtain ⟨h3, h4, h5⟩ := hst
  obtain ⟨h6, h7, h8⟩ := h3.add [.expr, .sign [41], j]
  rw [List.map_cons, List.map_cons, List.map_cons, List.map_nil, e2] at h6 h7 h8
  exact ⟨_, _, ho, h6, h7.trans h4, h8.trans h5⟩
theorem dot_post {s : RS} {m : Mch} (h : RelM s m) (n : ByteArray) {o : Out} (ho : postDot nfK s n o) : StepPost s ((pDot n (restK s)).bind fun e r => (some { m with su := m.su ++ [e] }, r)) o := by
 unfold postDot at ho
 rw [show (⟨#[46]⟩ : ByteArray) = bsL [46] from rfl, isR_eq] at ho
 rcases rest_cases s with ⟨h1, h2⟩ | ⟨x, h1, h2⟩
 ·rw [h2] at ho ⊢
  simp only [Bool.false_eq_true, if_false] at ho
  exact ⟨_, _, ho, h.pushPt _, h2, rfl⟩
 ·rw [h2] at ho ⊢
  simp only [decide_eq_true_eq] at ho
  rw [pDot]
  by_cases e : kt x = (4, [46])
  ·rw [if_pos e] at ho
   rw [if_pos (show kt x = sg [46] from e)]
   have h4 := h.adv h1
   rcases rest_cases (adv s 1) with ⟨h5, h6⟩ | ⟨y, h5, h6⟩
   ·rw [show s.toks[s.at_ + 1]? = none from h5] at ho
    rw [h6]
    show o = .pan _
    rw [ho, pan_eq h4.at_, h6]; rfl
   ·rw [show s.toks[s.at_ + 1]? = some y from h5] at ho
    rw [h6]
    simp only at ho
    rw [pName]
    by_cases hn : nfK y = true
    ·rw [if_pos hn] at ho ⊢
     exact ⟨_, _, ho, (h4.adv h5).pushPt _, rfl, rfl⟩
    ·rw [if_neg hn] at ho ⊢
     show o = .pan _
     rw [ho, pan_eq h4.at_, h6]; rfl
  ·rw [if_neg e] at ho
   rw [if_neg (show ¬ kt x = sg [46] from e)]
   exact ⟨_, _, ho, h.pushPt _, h2, rfl⟩
theorem start_post {s : RS} {m : Mch} (h : RelM s m) {o : Out} (ho : postStart nfK mfK nvK s o) : StepPost s (stepP .expr m (restK s)) o := by
 unfold postStart at ho
 rcases rest_cases s with ⟨h1, h2⟩ | ⟨x, h1, h2⟩
 ·rw [h1] at ho
  rw [h2]
  show o = .pan _
  rw [ho, pan_eq h.at_, h2]
 ·rw [h1] at ho
  have hisr : ∀ k t, isR s k (bsL t) = decide (kt x = (k, t)) := fun k t => by rw [isR_eq, h2]
  simp only [show (⟨#[116, 114, 117, 101]⟩ : ByteArray) = bsL wTrue from rfl, show (⟨#[102, 97, 108, 115, 101]⟩ : ByteArray) = bsL wFalse from rfl, show (⟨#[110, 105, 108]⟩ : ByteArray) = bsL wNil from rfl, show (⟨#[40]⟩ : ByteArray) = bsL [40] from rfl, hisr, decide_eq_true_eq] at ho
  have h3 := h.adv h1
  by_cases hp : kt x = sg [40]
  ·have e1 : ¬ mfK x = true := fun e => by
    have : (kt x).1 = 3 := by
     unfold mfK numT at e; simp only [Bool.and_eq_true, decide_eq_true_eq] at e; exact e.1
    rw [hp] at this; cases this
   have e2 : ¬ nfK x = true := fun e => by
    have : (kt x).1 = 1 := by
     unfold nfK nameT at e; simp only [Bool.and_eq_true, decide_eq_true_eq] at e; exact e.1
    rw [hp] at this; cases this
   have e3 : ∀ t, ¬ kt x = (1, t) := fun t e => by rw [hp] at e; cases e
   rw [if_neg e1, if_neg (e3 _), if_neg (e3 _), if_neg (e3 _), if_neg e2, if_pos (show kt x = (4, [40]) from hp)] at ho
   unfold postBracket at ho
   rw [h2]
   rcases rest_cases (adv s 1) with ⟨h5, h6⟩ | ⟨z, h5, h6⟩
   ·rw [h5] at ho
    rw [h6, stepP_end hp]
    show o = .pan _
    rw [ho, pan_eq h3.at_, h6]; rfl
   ·rw [h5] at ho
    rw [h6, stepP_open hp]
    have hre := restOf_eq z
    by_cases hk : z.kind = 1
    ·rw [if_pos hk] at hre
     simp only [hk, if_true] at ho
     cases hr : restP (kt z) with
     | some pts =>
      rw [hr] at hre
      simp only [Option.map_some] at hre
      rw [show restOf (⟨z.text.toArray⟩ : ByteArray) = some (pts.map pvP) from hre.symm] at ho
      obtain ⟨h7, h8, h9⟩ := (h3.adv h5).add pts
      exact ⟨_, _, ho, h7, h8, h9⟩
     | none =>
      rw [hr] at hre
      simp only [Option.map_none] at hre
      rw [show restOf (⟨z.text.toArray⟩ : ByteArray) = none from hre.symm] at ho
      obtain ⟨h7, h8, h9⟩ := h3.add [.expr, .tail]
      exact ⟨_, _, ho, h7, h8.trans h6, h9⟩
    ·rw [if_neg hk] at hre
     simp only [hk, if_false] at ho
     have hr : restP (kt z) = none := by
      cases hr : restP (kt z) with
      | none => rfl
      | some v => rw [hr] at hre; cases hre
     rw [hr]
     obtain ⟨h7, h8, h9⟩ := h3.add [.expr, .tail]
     exact ⟨_, _, ho, h7, h8.trans h6, h9⟩
  ·rw [h2, stepP_leaf hp, pLeaf]
   by_cases e1 : mfK x = true
   ·rw [if_pos e1] at ho
    rw [if_pos (show numT (kt x) = true from e1)]
    exact ⟨_, _, ho, h3.pushPt _, rfl, rfl⟩
   rw [if_neg e1] at ho
   rw [if_neg (show ¬ numT (kt x) = true from e1)]
   by_cases e2 : kt x = (1, wTrue)
   ·rw [if_pos e2] at ho
    rw [if_pos (show kt x = wd wTrue from e2)]
    exact ⟨_, _, ho, h3.pushPt _, rfl, rfl⟩
   rw [if_neg e2] at ho
   rw [if_neg (show ¬ kt x = wd wTrue from e2)]
   by_cases e3 : kt x = (1, wFalse)
   ·rw [if_pos e3] at ho
    rw [if_pos (show kt x = wd wFalse from e3)]
    exact ⟨_, _, ho, h3.pushPt _, rfl, rfl⟩
   rw [if_neg e3] at ho
   rw [if_neg (show ¬ kt x = wd wFalse from e3)]
   by_cases e4 : kt x = (1, wNil)
   ·rw [if_pos e4] at ho
    rw [if_pos (show kt x = wd wNil from e4)]
    exact ⟨_, _, ho, h3.pushPt _, rfl, rfl⟩
   rw [if_neg e4] at ho
   rw [if_neg (show ¬ kt x = wd wNil from e4)]
   by_cases e5 : nfK x = true
   ·rw [if_pos e5] at ho
    rw [if_pos (show nameT (kt x) = true from e5)]
    exact dot_post h3 _ ho
   rw [if_neg e5, if_neg (show ¬ kt x = (4, [40]) from hp)] at ho
   rw [if_neg (show ¬ nameT (kt x) = true from e5)]
   show o = .pan _
   rw [ho, pan_eq h.at_, h2]
end
section
open Go Go.RowKit
def okJ (a b c : Nat) : Prop := (a = 1 ∧ b = 0 ∧ c = 1) ∨ (a = 1 ∧ b = 0 ∧ c = 2) ∨ (a = 0 ∧ b = 0 ∧ c = 3) ∨ (a = 2 ∧ b = 0 ∧ c = 3) ∨ (a = 0 ∧ b = 2 ∧ c = 0) ∨ (a = 0 ∧ b = 0 ∧ c = 2)
def WFt : List Pt → Nat → Nat → Nat → Prop
 | [], _, _, _ => True
 | .word _ :: ps, a, b, c => WFt ps a b c
 | .sign _ :: ps, a, b, c => WFt ps a b c
 | .name :: ps, a, b, c => WFt ps (a + 1) b c
 | .number :: ps, a, b, c => WFt ps a (b + 1) c
 | .expr :: ps, a, b, c => WFt ps a b (c + 1)
 | .tail :: ps, a, b, c => 1 ≤ c ∧ WFt ps a b c
 | .join _ _ a' b' c' :: ps, a, b, c => okJ a' b' c' ∧ a' ≤ a ∧ b' ≤ b ∧ c' ≤ c ∧ WFt ps (a - a') (b - b') (c - c' + 1)
def wP : Pt → Nat
 | .tail => 3
 | _ => 1
def wPts : List Pt → Nat
 | [] => 0
 | p :: ps => wP p + wPts ps
theorem wPts_len : ∀ ps : List Pt, ps.length ≤ wPts ps
 | [] => Nat.le_refl _
 | p :: ps => by
  have := wPts_len ps
  have h1 : 1 ≤ wP p := by cases p <;> simp [wP]
  simp only [wPts, List.length_cons]; omega
theorem wPts_append : ∀ a b : List Pt, wPts (a ++ b) = wPts a + wPts b
 | [], b => by simp [wPts]
 | p :: a, b => by
  rw [List.cons_append, wPts, wPts, wPts_append a b]; omega
def bdM (m : Mch) (l : List KT) : Nat := 16 * l.length + wPts m.todo + m.nm.length + m.ni.length + m.su.length
theorem restP_wf {z : KT} {pts : List Pt} (h : restP z = some pts) (ps : List Pt) (a b c : Nat) (hw : WFt ps a b (c + 1)) : WFt (pts ++ ps) a b c ∧ wPts pts ≤ 13 := by
 unfold restP at h
 repeat' split at h
 all_goals first | (cases h; done) | skip
 all_goals (cases h; simp only [List.cons_append, List.nil_append, WFt, wPts, wP, okJ])
 all_goals (refine ⟨⟨by simp, by omega, by omega, by omega, ?_⟩, by omega⟩)
 all_goals (simpa using hw)
theorem pName_len {l r : List KT} {n : ByteArray} (h : pName l = (some n, r)) : l.length = r.length + 1 := by
 cases l with
 | nil => cases h
 | cons y q =>
  rw [pName] at h
  split at h
  ·cases h; rfl
  ·cases h
theorem pNum_len {l r : List KT} {n : Int} (h : pNum l = (some n, r)) : l.length = r.length + 1 := by
 cases l with
 | nil => cases h
 | cons y q =>
  rw [pNum] at h
  split at h
  ·cases h; rfl
  ·cases h
theorem eatT_len {x : KT} {l r : List KT} {u : Unit} (h : eatT x l = (some u, r)) : l.length = r.length + 1 := by
 cases l with
 | nil => cases h
 | cons y q =>
  rw [eatT] at h
  split at h
  ·cases h; rfl
  ·cases h
theorem pDot_len {n : ByteArray} {l r : List KT} {e : Ex} (h : pDot n l = (some e, r)) : r.length ≤ l.length := by
 have := pDot_le n l; rw [h] at this; exact this
theorem pLeaf_len {l r : List KT} {e : Ex} (h : pLeaf l = (some e, r)) : r.length + 1 ≤ l.length := by
 cases l with
 | nil => cases h
 | cons y q =>
  rw [pLeaf] at h
  rw [List.length_cons]
  repeat' split at h
  all_goals first | (cases h; done) | (cases h; exact Nat.le_refl _) | (have := pDot_len h; omega)
theorem bind_some_eq {α β : Type} {x : PR α} {f : α → List KT → PR β} {b : β} {r : List KT} (h : x.bind f = (some b, r)) : ∃ a q, x = (some a, q) ∧ f a q = (some b, r) := by
 obtain ⟨a, q⟩ := x
 cases a with
 | none => cases h
 | some a => exact ⟨a, q, rfl, h⟩
theorem step_ok {p : Pt} {ps : List Pt} {nm : List ByteArray} {ni : List Int} {su : List Ex} {l r : List KT} {m : Mch} (h : stepP p ⟨ps, nm, ni, su⟩ l = (some m, r)) (hw : WFt (p :: ps) nm.length ni.length su.length) :
  WFt m.todo m.nm.length m.ni.length m.su.length ∧ bdM m r ≤ bdM ⟨p :: ps, nm, ni, su⟩ l := by
 cases p with
 | word s =>
  obtain ⟨u, q, h1, h2⟩ := bind_some_eq h
  cases h2
  have := eatT_len h1
  exact ⟨hw, by simp only [bdM, wPts, wP]; omega⟩
 | sign s =>
  obtain ⟨u, q, h1, h2⟩ := bind_some_eq h
  cases h2
  have := eatT_len h1
  exact ⟨hw, by simp only [bdM, wPts, wP]; omega⟩
 | name =>
  obtain ⟨u, q, h1, h2⟩ := bind_some_eq h
  cases h2
  have := pName_len h1
  refine ⟨by simpa [WFt] using hw, by simp only [bdM, wPts, wP, List.length_append, List.length_singleton]; omega⟩
 | number =>
  obtain ⟨u, q, h1, h2⟩ := bind_some_eq h
  cases h2
  have := pNum_len h1
  refine ⟨by simpa [WFt] using hw, by simp only [bdM, wPts, wP, List.length_append, List.length_singleton]; omega⟩
 | tail =>
  obtain ⟨hc, hw⟩ := hw
  cases l with
  | nil => cases h
  | cons z q =>
   simp only [stepP, Prod.mk.injEq, Option.some.injEq] at h
   obtain ⟨rfl, rfl⟩ := h
   have ht : ∃ k op, (tailP z).1 = [.expr, .sign [41], .join k op 0 0 2] := by
    unfold tailP
    repeat' split
    all_goals exact ⟨_, _, rfl⟩
   obtain ⟨k, op, e⟩ := ht
   have hl : (if (tailP z).2 = true then q else z :: q).length ≤ q.length + 1 := by
    split <;> simp
   rw [e]
   refine ⟨?_, ?_⟩
   ·simp only [List.cons_append, List.nil_append, WFt, okJ]
    refine ⟨by simp, by omega, by omega, by omega, ?_⟩
    rw [Nat.sub_zero, Nat.sub_zero, show su.length + 1 - 2 + 1 = su.length by omega]
    exact hw
   ·simp only [bdM, List.cons_append, List.nil_append, wPts, wP, List.length_cons]
    omega
 | join k op a b c =>
  obtain ⟨hj, h1, h2, h3, h4⟩ := hw
  simp only [stepP, Prod.mk.injEq, Option.some.injEq] at h
  obtain ⟨rfl, rfl⟩ := h
  refine ⟨?_, ?_⟩
  ·simp only [List.length_take, List.length_append, List.length_singleton]
   rw [Nat.min_eq_left (by omega), Nat.min_eq_left (by omega), Nat.min_eq_left (by omega)]
   exact h4
  ·simp only [bdM, wPts, wP, List.length_take, List.length_append, List.length_singleton]
   omega
 | expr =>
  have hw' : WFt ps nm.length ni.length (su.length + 1) := hw
  cases l with
  | nil => cases h
  | cons y q =>
   by_cases hy : y = sg [40]
   ·cases q with
    | nil => rw [stepP_end hy] at h; cases h
    | cons z q =>
     rw [stepP_open hy] at h
     cases hr : restP z with
     | some pts =>
      rw [hr] at h
      simp only [Prod.mk.injEq, Option.some.injEq] at h
      obtain ⟨rfl, rfl⟩ := h
      obtain ⟨h1, h2⟩ := restP_wf hr ps nm.length ni.length su.length hw'
      refine ⟨h1, ?_⟩
      simp only [bdM, wPts, wP, wPts_append, List.length_cons]
      omega
     | none =>
      rw [hr] at h
      simp only [Prod.mk.injEq, Option.some.injEq] at h
      obtain ⟨rfl, rfl⟩ := h
      refine ⟨by simp only [WFt]; exact ⟨by omega, hw'⟩, ?_⟩
      simp only [bdM, wPts, wP, List.length_cons]
      omega
   ·rw [stepP_leaf hy] at h
    obtain ⟨e, q', h1, h2⟩ := bind_some_eq h
    cases h2
    have := pLeaf_len h1
    refine ⟨by simpa using hw', ?_⟩
    simp only [bdM, wPts, wP, List.length_append, List.length_singleton]
    omega
end
section
open Go Go.RowKit
theorem MRun.inv {n : Nat} {p : Pt} {ps : List Pt} {nm : List ByteArray} {ni : List Int} {su : List Ex} {l : List KT} {R : PR Mch} (h : MRun n ⟨p :: ps, nm, ni, su⟩ l R) :
  (∀ r, stepP p ⟨ps, nm, ni, su⟩ l = (none, r) → R = (none, r)) ∧ (∀ m' r, stepP p ⟨ps, nm, ni, su⟩ l = (some m', r) → ∃ n', n' < n ∧ MRun n' m' r R) := by
 cases h with
 | done m l h => cases h
 | fail p ps nm ni su l r h =>
  rw [h]
  exact ⟨fun r' e => (by cases e; rfl), fun m' r' e => by cases e⟩
 | step n p ps nm ni su l r m' R h h' =>
  rw [h]
  exact ⟨fun r' e => (by cases e), fun m2 r' e => by cases e; exact ⟨n, Nat.lt_succ_self n, h'⟩⟩
theorem MRun.inv0 {n : Nat} {m : Mch} {l : List KT} {R : PR Mch} (h : MRun n m l R) (hm : m.todo = []) : R = (some m, l) := by
 cases h with
 | done m l h => rfl
 | fail p ps nm ni su l r h => cases hm
 | step n p ps nm ni su l r m' R h h' => cases hm
def InvX (s : RS) (R : PR Mch) (n : Nat) (s1 : RS) : Prop := ∃ m, MRun n m (restK s1) R ∧ RelM s1 m ∧ WFt m.todo m.nm.length m.ni.length m.su.length ∧ bdM m (restK s1) ≤ 16777217 ∧ s1.toks = s.toks
def Round (s : RS) (R : PR Mch) (n : Nat) (o : Out) : Prop := (∃ s' res, o = .ret res (rdL s') ∧ ∃ n', n' < n ∧ InvX s R n' s') ∨ ∃ r, o = .pan (pvA (s.toks.length - r.length)) ∧ R = (none, r)
theorem round_of {s s1 s2 : RS} {R : PR Mch} {n : Nat} {p : Pt} {ps : List Pt} {nm : List ByteArray} {ni : List Int} {su : List Ex} (h : MRun n ⟨p :: ps, nm, ni, su⟩ (restK s1) R) (hw : WFt (p :: ps) nm.length ni.length su.length) (hb : bdM ⟨p :: ps, nm, ni, su⟩ (restK s1) ≤ 16777217) (ht : s2.toks = s.toks) (hr : restK s2 = restK s1) {o : Out} (ho : StepPost s2 (stepP p ⟨ps, nm, ni, su⟩ (restK s2)) o) : Round s R n o := by
 rw [hr] at ho
 obtain ⟨h1, h2⟩ := h.inv
 unfold StepPost at ho
 cases hs : stepP p ⟨ps, nm, ni, su⟩ (restK s1) with
 | mk a r =>
  rw [hs] at ho
  cases a with
  | none => exact .inr ⟨r, by rw [← ht]; exact ho, h1 r hs⟩
  | some m =>
   obtain ⟨s', res, e1, e2, e3, e4⟩ := ho
   obtain ⟨n', e5, e6⟩ := h2 m r hs
   obtain ⟨e7, e8⟩ := step_ok hs hw
   exact .inl ⟨s', res, e1, n', e5, m, by rw [e3]; exact e6, e2, e7, by rw [e3]; omega, e4.trans ht⟩
theorem Round.ret {s : RS} {R : PR Mch} {n : Nat} {res : AV} {L : Lent} (h : Round s R n (.ret res L)) : ∃ s', L = rdL s' ∧ ∃ n', n' < n ∧ InvX s R n' s' := by
 rcases h with ⟨s', r, e, h⟩ | ⟨r, e, h⟩
 ·cases e; exact ⟨s', rfl, h⟩
 ·cases e
theorem Round.pan {s : RS} {R : PR Mch} {n : Nat} {v : Value} (h : Round s R n (.pan v)) : ∃ r, v = pvA (s.toks.length - r.length) ∧ R = (none, r) := by
 rcases h with ⟨s', r, e, h⟩ | ⟨r, e, h⟩
 ·cases e
 ·cases e; exact ⟨r, rfl, h⟩
def pushNm (s : RS) (n : ByteArray) : RS := { s with nm := s.nm.push (encN n) }
def pushNi (s : RS) (n : Int) : RS := { s with ni := s.ni.push (encI n) }
theorem RelM.pushNm {s : RS} {m : Mch} (h : RelM s m) (n : ByteArray) : RelM (pushNm s n) { m with nm := m.nm ++ [n] } := ⟨h.td, by simp only [Go.Proofs.YtnnolijagpakiaaGreatDoor.pushNm, List.map_append, List.map_cons, List.map_nil]; exact h.nm.push _, h.ni, h.pt, h.at_⟩
theorem RelM.pushNi {s : RS} {m : Mch} (h : RelM s m) (n : Int) : RelM (pushNi s n) { m with ni := m.ni ++ [n] } := ⟨h.td, h.nm, by simp only [Go.Proofs.YtnnolijagpakiaaGreatDoor.pushNi, List.map_append, List.map_cons, List.map_nil]; exact h.ni.push _, h.pt, h.at_⟩
theorem keep_name {s : RS} {m : Mch} (h : RelM s m) {o : Out} (ho : postName nfK s o) : (∃ x, o = .ret (.d (.raw (.string (bT x)))) (rdL (adv s 1)) ∧ StepPost s (stepP .name m (restK s)) (.ret (.tup []) (rdL (pushNm (adv s 1) (bT x))))) ∨ ∃ v, o = .pan v ∧ StepPost s (stepP .name m (restK s)) (.pan v) := by
 rcases name_cases h.at_ ho with ⟨x, h1, h2, h3⟩ | ⟨h1, h2⟩
 ·refine .inl ⟨x, h2, ?_⟩
  simp only [stepP, h3]
  exact ⟨_, _, rfl, (h.adv h1).pushNm _, rfl, rfl⟩
 ·refine .inr ⟨_, h1, ?_⟩
  simp only [stepP, h2]
  rfl
theorem keep_num {s : RS} {m : Mch} (h : RelM s m) {o : Out} (ho : postNum mfK nvK s o) : (∃ x, o = .ret (.d (.raw (.int .i64 (nvK x)))) (rdL (adv s 1)) ∧ StepPost s (stepP .number m (restK s)) (.ret (.tup []) (rdL (pushNi (adv s 1) (nvK x))))) ∨ ∃ v, o = .pan v ∧ StepPost s (stepP .number m (restK s)) (.pan v) := by
 rcases num_cases h.at_ ho with ⟨x, h1, h2, h3⟩ | ⟨h1, h2⟩
 ·refine .inl ⟨x, h2, ?_⟩
  simp only [stepP, h3]
  exact ⟨_, _, rfl, (h.adv h1).pushNi _, rfl, rfl⟩
 ·refine .inr ⟨_, h1, ?_⟩
  simp only [stepP, h2]
  rfl
theorem build_j {s : RS} {k : Int} {op : ByteArray} {a b c : Nat} {m : Mch} (hj : okJ a b c) (h : RelM s m) (ha : a ≤ m.nm.length) (hb : b ≤ m.ni.length) (hc : c ≤ m.su.length) (hf : m.nm.length + m.ni.length + m.su.length ≤ 1073741824) :
  ConL Tryz.prog 82 [.box 901 0, .agg ((encPV (pvP (.join k op a b c))).map .d)] (rdL s) (fun o => o = .ret (.tup []) (rdL (builtS s k op a b c m.nm m.ni m.su))) := by
 have hs : Stks s m.nm m.ni m.su := ⟨h.nm, h.ni, h.pt, hf⟩
 rcases hj with ⟨rfl, rfl, rfl⟩ | ⟨rfl, rfl, rfl⟩ | ⟨rfl, rfl, rfl⟩ | ⟨rfl, rfl, rfl⟩ | ⟨rfl, rfl, rfl⟩ | ⟨rfl, rfl, rfl⟩
 ·exact build_101 s k op _ _ _ hs ha hc
 ·exact build_102 s k op _ _ _ hs ha hc
 ·exact build_003 s k op _ _ _ hs hc
 ·exact build_203 s k op _ _ _ hs ha hc
 ·exact build_020 s k op _ _ _ hs hb
 ·exact build_002 s k op _ _ _ hs hc
theorem join_post {s : RS} {k : Int} {op : ByteArray} {a b c : Nat} {m : Mch} (h : RelM s m) : StepPost s (stepP (.join k op a b c) m (restK s)) (.ret (.tup []) (rdL (builtS s k op a b c m.nm m.ni m.su))) := by
 have hnl := h.nm.len
 have hil := h.ni.len
 have hpl := h.pt.len
 rw [List.length_map] at hnl hil
 rw [encL_length] at hpl
 refine ⟨builtS s k op a b c m.nm m.ni m.su, _, rfl, ⟨h.td, ?_, ?_, ?_, h.at_⟩, rfl, rfl⟩
 ·simp only [builtS]
  have := h.nm.cut (n := s.nm.len - a) (by rw [List.length_map]; omega)
  rw [← List.map_take] at this
  rw [hnl] at this ⊢
  exact this
 ·simp only [builtS]
  have := h.ni.cut (n := s.ni.len - b) (by rw [List.length_map]; omega)
  rw [← List.map_take] at this
  rw [hil] at this ⊢
  exact this
 ·simp only [builtS]
  rw [encL_snoc]
  have := h.pt.cut (n := s.pt.len - c) (by rw [encL_length]; omega)
  rw [encL_map, ← List.map_take, ← encL_map] at this
  rw [hpl] at this ⊢
  exact this.push _
theorem bd_few {m : Mch} {l : List KT} (h : bdM m l ≤ 16777217) : m.todo.length + m.nm.length + m.ni.length + m.su.length ≤ 16777217 := by
 have := wPts_len m.todo
 unfold bdM at h
 omega
end
section
open Go Go.RowKit
structure Empty (s : RS) : Prop where
 td : Holds s.td []
 nm : Holds s.nm []
 ni : Holds s.ni []
 pt : Holds s.pt []
structure Rdy (s : RS) (t : List LTok) : Prop where
 toks : s.toks = t
 at_ : s.at_ ≤ t.length
 few : t.length ≤ 1048576
 em : Empty s
def PostR {α : Type} (t : List LTok) (x : PR α) (enc : α → AV) (o : Out) : Prop := match x with
 | (some a, r) => ∃ s', o = .ret (enc a) (rdL s') ∧ Rdy s' t ∧ restK s' = r
 | (none, r) => o = .pan (pvA (t.length - r.length))
theorem PostR.ret {α : Type} {t : List LTok} {x : PR α} {enc : α → AV} {v : AV} {L : Lent} (h : PostR t x enc (.ret v L)) : ∃ a s', x = (some a, restK s') ∧ v = enc a ∧ L = rdL s' ∧ Rdy s' t := by
 obtain ⟨a, r⟩ := x
 cases a with
 | none => cases h
 | some a =>
  obtain ⟨s', e, h1, h2⟩ := h
  cases e
  exact ⟨a, s', by rw [h2], rfl, rfl, h1⟩
theorem PostR.pan {α : Type} {t : List LTok} {x : PR α} {enc : α → AV} {v : Value} (h : PostR t x enc (.pan v)) : ∃ r, x = (none, r) ∧ v = pvA (t.length - r.length) := by
 obtain ⟨a, r⟩ := x
 cases a with
 | none => cases h; exact ⟨r, rfl, rfl⟩
 | some a =>
  obtain ⟨s', e, _⟩ := h
  cases e
variable {s : RS} {t : List LTok}
theorem Rdy.pos (h : Rdy s t) : t.length - (restK s).length = s.at_ := by
 rw [← h.toks]
 exact rest_len s (by rw [h.toks]; exact h.at_)
theorem Rdy.le (h : Rdy s t) : s.at_ ≤ s.toks.length := by rw [h.toks]; exact h.at_
theorem Rdy.few' (h : Rdy s t) : s.toks.length ≤ 1048576 := by rw [h.toks]; exact h.few
theorem Rdy.pvR (h : Rdy s t) : pvR s = pvA (t.length - (restK s).length) := by rw [h.pos]
theorem Rdy.adv (h : Rdy s t) {x : LTok} (hx : s.toks[s.at_]? = some x) : Rdy (adv s 1) t := ⟨h.toks, by have := adv_le hx; rw [← h.toks]; exact this, h.few, ⟨h.em.td, h.em.nm, h.em.ni, h.em.pt⟩⟩
theorem Rdy.cases (h : Rdy s t) : (s.toks[s.at_]? = none ∧ restK s = []) ∨ ∃ x, s.toks[s.at_]? = some x ∧ restK s = kt x :: restK (Go.Proofs.YtnnolijagpakiaaGreatDoor.adv s 1) ∧ Rdy (Go.Proofs.YtnnolijagpakiaaGreatDoor.adv s 1) t := by
 rcases rest_cases s with h1 | ⟨x, h1, h2⟩
 ·exact .inl h1
 ·exact .inr ⟨x, h1, h2, h.adv h1⟩
theorem isR_head (s : RS) (k : Int) (w : List UInt8) : isR s k (bsL w) = decide ((restK s).head? = some (k, w)) := by
 rw [isR_eq]
 cases restK s with
 | nil => rfl
 | cons y r => simp
theorem Rdy.is_t (h : Rdy s t) {k : Int} {w : List UInt8} (hi : isR s k (bsL w) = true) : ∃ x, s.toks[s.at_]? = some x ∧ restK s = (k, w) :: restK (Go.Proofs.YtnnolijagpakiaaGreatDoor.adv s 1) ∧ Rdy (Go.Proofs.YtnnolijagpakiaaGreatDoor.adv s 1) t := by
 rw [isR_head, decide_eq_true_eq] at hi
 rcases h.cases with ⟨_, h2⟩ | ⟨x, h1, h2, h3⟩
 ·rw [h2] at hi; cases hi
 ·rw [h2] at hi
  cases hi
  exact ⟨x, h1, h2, h3⟩
theorem is_f {k : Int} {w : List UInt8} (hi : isR s k (bsL w) = false) : (restK s).head? ≠ some (k, w) := by
 rw [isR_head, decide_eq_false_iff_not] at hi
 exact hi
theorem Rdy.expect (h : Rdy s t) (k : Int) (w : List UInt8) {o : Out} (ho : postExpect s k (bsL w) o) : PostR t (eatT (k, w) (restK s)) (fun _ => .tup []) o := by
 unfold postExpect at ho
 rw [isR_eq] at ho
 rcases h.cases with ⟨h1, h2⟩ | ⟨x, h1, h2, h3⟩
 ·rw [h2] at ho ⊢
  simp only [Bool.false_eq_true, if_false] at ho
  rw [ho, h.pvR, h2]; rfl
 ·rw [h2] at ho ⊢
  simp only [decide_eq_true_eq] at ho
  rw [eatT]
  split at ho
  ·rename_i e
   rw [if_pos e]
   exact ⟨_, ho, h3, rfl⟩
  ·rename_i e
   rw [if_neg e]
   show o = .pan _
   rw [ho, h.pvR, h2]
abbrev avB (n : ByteArray) : AV := .d (.raw (.string n))
abbrev avI (n : Int) : AV := .d (.raw (.int .i64 n))
theorem Rdy.name (h : Rdy s t) {o : Out} (ho : postName nfK s o) : PostR t (pName (restK s)) avB o := by
 rcases name_cases h.le ho with ⟨x, h1, h2, h3⟩ | ⟨h1, h2⟩
 ·rw [h3]; exact ⟨_, h2, h.adv h1, rfl⟩
 ·rw [h2]; rw [h.toks] at h1; exact h1
theorem Rdy.num (h : Rdy s t) {o : Out} (ho : postNum mfK nvK s o) : PostR t (pNum (restK s)) avI o := by
 rcases num_cases h.le ho with ⟨x, h1, h2, h3⟩ | ⟨h1, h2⟩
 ·rw [h3]; exact ⟨_, h2, h.adv h1, rfl⟩
 ·rw [h2]; rw [h.toks] at h1; exact h1
theorem Rdy.relM (h : Rdy s t) : RelM s ⟨[], [], [], []⟩ := ⟨h.em.td, h.em.nm, h.em.ni, h.em.pt, h.le⟩
end
end Go.Proofs.YtnnolijagpakiaaGreatDoor
