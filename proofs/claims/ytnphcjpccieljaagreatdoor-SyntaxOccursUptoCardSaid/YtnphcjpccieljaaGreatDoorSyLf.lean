/- SyntaxOccurs: free variables are among the tokens; the law walked. -/
import Derived.Test.YtnphcjpccieljaaGreatDoorSyLd
import Derived.Test.YtnphcjpccieljaaGreatDoorSyLa
import Derived.Test.YtnphcjpccieljaaGreatDoorScC
namespace Go.Proofs.YtnphcjpccieljaaGreatDoor
open Go Go.RowKit
/-- a free variable is among the tokens -/
theorem free_tok {t : Ex} (h : VT t) : ∀ (bd l : List ByteArray) (x : ByteArray), x ∈ freeE t bd l → x ∈ l ∨ nmT x ∈ tkE t := by
  induction h with
  | var n hn =>
    intro bd l x hx
    rw [freeE] at hx
    split at hx
    · rcases (withS_mem _ _ _).1 hx with h | rfl
      · exact .inl h
      · exact .inr (by simp [tkE, nodeToks])
    · simp only [freeL] at hx; exact .inl hx
  | int | bool | dot | nil | chance => intro bd l x hx; rw [freeE, if_neg (by simp)] at hx; simp only [freeL] at hx; exact .inl hx
  | fn n a hn va ih =>
    intro bd l x hx
    rw [freeE, if_neg (by simp)] at hx
    simp only [freeL] at hx
    rcases ih _ _ x hx with h | h
    · exact .inl h
    · exact .inr (by simp [tkE, tkL, nodeToks, atT, h])
  | call a b va vb iha ihb | letx n a b hn va vb iha ihb | op n a b hn va vb iha ihb | cons a b va vb iha ihb =>
    intro bd l x hx
    rw [freeE, if_neg (by simp)] at hx
    simp only [freeL] at hx
    rcases ihb _ _ x hx with h | h
    · rcases iha _ _ x h with h | h
      · exact .inl h
      · exact .inr (by simp [tkE, tkL, nodeToks, atT, h])
    · exact .inr (by simp [tkE, tkL, nodeToks, atT, h])
  | ifx a b c va vb vc iha ihb ihc | casex n m a b c hn hm hne va vb vc iha ihb ihc | sum a b c va vb vc iha ihb ihc =>
    intro bd l x hx
    rw [freeE, if_neg (by simp)] at hx
    simp only [freeL] at hx
    rcases ihc _ _ x hx with h | h
    · rcases ihb _ _ x h with h | h
      · rcases iha _ _ x h with h | h
        · exact .inl h
        · exact .inr (by simp [tkE, tkL, nodeToks, atT, h])
      · exact .inr (by simp [tkE, tkL, nodeToks, atT, h])
    · exact .inr (by simp [tkE, tkL, nodeToks, atT, h])
def isTok (nm : ByteArray) (t : LTok) : Bool := decide (t.kind = 1) && decide ((⟨t.text.toArray⟩ : ByteArray) = nm)
theorem any_take_succ {α : Type} {p : α → Bool} {l : List α} {q : Nat} (h : q < l.length) : (l.take (q + 1)).any p = ((l.take q).any p || p l[q]) := by
  rw [List.take_succ_eq_append_getElem h, List.any_append]; simp
theorem isTok_of {us : List LTok} {nm : ByteArray} (h : nmT nm ∈ us.map kt) : us.any (isTok nm) = true := by
  obtain ⟨t, ht, e⟩ := List.mem_map.1 h
  rw [List.any_eq_true]
  refine ⟨t, ht, ?_⟩
  have e1 : t.kind = 1 := congrArg Prod.fst e
  have e2 : t.text = nm.data.toList := congrArg Prod.snd e
  unfold isTok
  rw [decide_eq_true e1, decide_eq_true (show (⟨t.text.toArray⟩ : ByteArray) = nm by rw [e2])]
  rfl
abbrev ocSt (us : List LTok) (fs : List ByteArray) (q : Nat) : St := ⟨[(5, .d (.sl (encTs us))), (7, .d (.raw (.int .i64 0))), (31, .d (.sl (encS fs))), (32, .d (.raw (.int .i64 fs.length))), (33, .d (.raw (.int .i64 q)))], [], []⟩
abbrev oc2St (us : List LTok) (fs : List ByteArray) (q : Nat) (nm : ByteArray) (j : Nat) : St := ⟨[(5, .d (.sl (encTs us))), (7, .d (.raw (.int .i64 0))), (9, .d (.raw (.string nm))), (10, .d (.raw (.bool ((us.take j).any (isTok nm))))), (31, .d (.sl (encS fs))), (32, .d (.raw (.int .i64 fs.length))), (33, .d (.raw (.int .i64 q))), (37, .d (.sl (encTs us))), (38, .d (.raw (.int .i64 us.length))), (39, .d (.raw (.int .i64 j)))], [], []⟩
theorem scan_len : ∀ (f : Nat) (r : List UInt8) (p : Nat) (acc ts : List LTok), scanT f r p acc = (ts, none) → ts.length ≤ acc.length + r.length := fun f => by
  induction f with
  | zero => intro r p acc ts h; injection h with h _; subst h; omega
  | succ f ih =>
    intro r p acc ts h
    rcases Nat.eq_zero_or_pos r.length with h0 | h0
    · rw [scanT_end h0] at h; injection h with h _; subst h; omega
    · cases ho : okNext r with
      | false => rw [scanT_err h0 ho] at h; cases h
      | true =>
        rw [scanT_step h0 ho] at h
        have h1 := ih _ _ _ _ h
        have h2 : 0 < advL r := by have := okNext_pos ho; unfold advL; omega
        have h3 := advL_le r h0
        rw [List.length_append, List.length_singleton, List.length_drop] at h1
        omega
theorem scanAll_len {l : List UInt8} {ts : List LTok} (h : scanAll l = (ts, none)) : ts.length ≤ l.length := by
  have := scan_len _ _ _ _ _ h
  rw [List.length_drop, List.length_nil] at this
  omega
set_option maxRecDepth 100000 in
set_option maxHeartbeats 16000000 in
theorem lawOccurs_c (a : Ex) (ha : nodesE a ≤ 1048576) : Con Tryz.prog 9 [avE a] (.d (.raw (.bool true))) := by
  have cga := rGreat_c a (by omega)
  refine con_of Tryz.func9 rfl (by decide +kernel) rfl (by simp only [AV.closed, closedL, avE, closedL_d, Bool.and_self]) (by simp [Tryz.ntmps9]) fun A hA => ?_
  rw [Tryz.ntmps9] at hA
  refine goC 400 ?_
  simp only [go_sem, hA, avE_eq]
  refine goCall 300 cga rfl (by simp only [go_sem, avE_eq]) (by simp only [go_sem, hA]) ?_
  cases h1 : greatE a with
  | true =>
    simp only [go_sem]
    refine goCall 300 awake_c rfl rfl (by simp only [go_sem, hA]) ?_
    simp only [go_sem, hA, Tryz.results9]
  | false =>
  have na := greatE_le h1
  have cea := sExpr_c a (by omega) (fun h h5 => checkX_full h h5)
  have cf := sFree_c a (by omega) (fun h => checkX_shp h)
  rw [sfreeX_eq] at cf
  simp only [go_sem, hA]
  refine goCall 300 cea rfl (by simp only [go_sem, avE_eq]) (by simp only [go_sem, hA]) ?_
  by_cases h3 : (exprX a).2 = 0
  case neg =>
    have k1 : (decide ¬ (exprX a).2 = 0) = true := decide_eq_true h3
    simp only [go_sem, hA, k1]
    refine goCall 300 awake_c rfl rfl (by simp only [go_sem, hA]) ?_
    simp only [go_sem, hA, Tryz.results9]
  have k1 : (decide ¬ (exprX a).2 = 0) = false := decide_eq_false (fun h => h h3)
  obtain ⟨va, ta, hz, hck⟩ := exprX_ok h3
  have csc := scan_c (txE a)
  obtain ⟨us, hs, hus⟩ := sc_scan (sc_ex va [] stop_nil)
  have hx : scanX (txE a) = (us, 0, 0) := by unfold scanX; rw [if_neg (by omega)]; show (match (scanAll (tx a)).2 with | none => ((scanAll (tx a)).1, (0 : Int), (0 : Int)) | some p => ([], (p : Int), 3)) = _; rw [hs]
  rw [hx] at csc
  have hul : us.length ≤ 65536 := by
    have := scanAll_len hs
    have e : (tx a).length = (txE a).size := rfl
    omega
  have hfl := freeX_length a
  have hfx : freeX a = freeE a [] [] := if_pos hck
  have hmem : ∀ nm ∈ freeX a, us.any (isTok nm) = true := fun nm hn => isTok_of (by
    rw [hus]
    rw [hfx] at hn
    rcases free_tok va [] [] nm hn with h | h
    · cases h
    · exact h)
  obtain ⟨fs, hfs⟩ : ∃ fs, freeX a = fs := ⟨_, rfl⟩
  rw [hfs] at cf hmem hfl
  simp only [go_sem, hA, k1, ta]
  refine goCall 300 csc rfl (by simp only [go_sem]) (by simp only [go_sem, hA]) ?_
  simp only [go_sem, hA]
  refine goCall 300 cf rfl (by simp only [go_sem, avE_eq]) (by simp only [go_sem, hA]) ?_
  simp only [go_sem, hA, encS_length]
  refine satC_loop [5, 7, 31, 32, 33] [] [] (fun z σ => ∃ q : Nat, q ≤ fs.length ∧ z = fs.length - q ∧ σ = ocSt us fs q) fs.length ⟨0, by omega, by omega, by simp only [go_sem, ocSt]⟩ ?_
  rintro z σ ⟨q, hq, rfl, rfl⟩
  refine goC 400 ?_
  by_cases hlt : q < fs.length
  case neg =>
    have k2 : decide ((q : Int) < (fs.length : Int)) = false := decide_eq_false (by omega)
    simp only [go_sem, hA, ocSt, k2]
    refine goCall 300 awake_c rfl rfl (by simp only [go_sem, hA]) ?_
    simp only [go_sem, hA, Tryz.results9]
  have k2 : decide ((q : Int) < (fs.length : Int)) = true := decide_eq_true (by omega)
  have hany := hmem _ (List.getElem_mem hlt)
  obtain ⟨nm, hnm⟩ : ∃ nm, fs[q] = nm := ⟨_, rfl⟩
  rw [hnm] at hany
  simp only [go_sem, hA, ocSt, k2, encS_length, Int.toNat_natCast, encS_at fs q hlt, hnm, encTs_length]
  refine ⟨⟨by omega, by omega⟩, ?_⟩
  refine satC_loop [5, 7, 9, 10, 31, 32, 33, 37, 38, 39] [] [] (fun z σ => ∃ j : Nat, j ≤ us.length ∧ z = us.length - j ∧ σ = oc2St us fs q nm j) us.length ⟨0, by omega, by omega, by simp only [go_sem, oc2St]; rfl⟩ ?_
  rintro z σ ⟨j, hj, rfl, rfl⟩
  refine goC 400 ?_
  by_cases hjl : j < us.length
  case neg =>
    have k3 : decide ((j : Int) < (us.length : Int)) = false := decide_eq_false (by omega)
    obtain rfl : j = us.length := by omega
    simp only [go_sem, hA, oc2St, k3, List.take_length, hany]
    exact ⟨by unfold inI64; omega, fs.length - (q + 1), by omega, q + 1, by omega, rfl, rfl⟩
  have k3 : decide ((j : Int) < (us.length : Int)) = true := decide_eq_true (by omega)
  have hsu := any_take_succ (p := isTok nm) hjl
  cases hb : (us.take j).any (isTok nm) with
  | true =>
    rw [hb] at hsu
    simp only [go_sem, hA, oc2St, k3, hb, encTs_length, Int.toNat_natCast, encTs_at us j hjl, encT, undef]
    exact ⟨⟨by omega, by omega⟩, by unfold inI64; omega, us.length - (j + 1), by omega, j + 1, by omega, rfl, by rw [hsu]; rfl⟩
  | false =>
    rw [hb] at hsu
    cases k4 : decide (us[j].kind = 1) with
    | false =>
      have e : isTok nm us[j] = false := by unfold isTok; rw [k4]; rfl
      rw [e] at hsu
      simp only [go_sem, hA, oc2St, k3, hb, encTs_length, Int.toNat_natCast, encTs_at us j hjl, encT, k4, undef]
      exact ⟨⟨by omega, by omega⟩, by unfold inI64; omega, us.length - (j + 1), by omega, j + 1, by omega, rfl, by rw [hsu]; rfl⟩
    | true =>
      obtain ⟨b, k5⟩ : ∃ b, decide ((⟨us[j].text.toArray⟩ : ByteArray) = nm) = b := ⟨_, rfl⟩
      have e : isTok nm us[j] = b := by unfold isTok; rw [k4, k5]; rfl
      rw [e] at hsu
      simp only [go_sem, hA, oc2St, k3, hb, encTs_length, Int.toNat_natCast, encTs_at us j hjl, encT, k4, k5]
      exact ⟨⟨by omega, by omega⟩, by unfold inI64; omega, us.length - (j + 1), by omega, j + 1, by omega, rfl, by rw [hsu]; rfl⟩
end Go.Proofs.YtnphcjpccieljaaGreatDoor
