/- ExprmergeOrder: for all expressions whose reading is of bulk at most 1048576 the law returns true, and the arguments read afterwards as before. The row lists two tables of Go's library; the card ties them to the program's text. -/
import Derived.Test.YtiagjpiclnmpkaaDoorFrameX
import Derived.Test.YtiagjpiclnmpkaaDoorStJ
namespace Go.Proofs.YtiagjpiclnmpkaaDoor.exprmergeOrder
open Go.ChangeShapes Go.WideShapes Go.ChangeAt Go.RowKit

theorem contract (H : Type) (enc : TypeId × Value → H) (W : World) (base : Nat) (args : Array Value) (ds gs : List (DataW H)) (before : List MemPlace)
    (hval : ∀ (j : Nat) t v, Tryd.f9.params[j]? = some t → args[j]? = some v → Value.okWide Tryd.prog W .any base t v)
    (hW : DataW.Whole enc Tryd.prog Tryd.f9.params.toList Rows.exprmergeOrderSpec.vars false W args.toList ds gs before) (hk : Rows.uptoSmall H (ds ++ gs) = true) :
    Calls Tryd.prog 9 args W fun e W' => ∃ v, e = .returned v ∧ Rows.exprmergeOrderSpec.post enc Tryd.prog Tryd.f9 false true false false W args v W' := by
  have hW' := hW
  obtain ⟨p, q, hA0, hV, rfl, hfz, hnd⟩ := hW
  have hA : DataW.TrodAll enc Tryd.prog W 0 (fun _ => true) true Tryd.f9.params.toList args.toList ds p := hA0
  rw [Tryd.params9] at hA hval
  obtain ⟨v0, vs0, d0, ds0, p0, q0, hargs, rfl, rfl, h0, r0⟩ := trodAll_cons hA
  obtain ⟨v1, vs1, d1, ds1, p1, q1, rfl, rfl, rfl, h1, r1⟩ := trodAll_cons r0
  obtain ⟨v2, vs2, d2, ds2, p2, q2, rfl, rfl, rfl, h2, r2⟩ := trodAll_cons r1
  obtain ⟨rfl, rfl, rfl⟩ := trodAll_nil r2
  obtain rfl : args = #[v0, v1, v2] := by cases args; simp_all
  obtain ⟨rfl, rfl⟩ := trodVars_none hV
  clear hA0
  simp only [List.append_nil] at hW'
  have hkb : Rows.uptoBulk d0 + Rows.uptoBulk d1 + Rows.uptoBulk d2 ≤ 1048576 := by
    have h := of_decide_eq_true hk
    simp only [List.append_nil, Rows.uptoBulkAll] at h
    omega
  have hlt0 : ∀ x ∈ p0, x.block < W.heap.size := fun x hx => hW'.lt x (List.mem_append.2 (.inl hx))
  obtain ⟨t0, x0, rfl, hx0, hn0⟩ : ∃ (t : Ex) (x : XV), v0 = .agg x.arr ∧ XAt W t x ∧ nodesE t ≤ Rows.uptoBulk d0 := by
    obtain ⟨fuel, hf⟩ := h0
    obtain ⟨t, x, hc, hx, hn⟩ := open_ex (Rows.uptoBulk d0) fuel v0.cells.toList (d0, p0) (Nat.le_refl _) hf hlt0
    refine ⟨t, x, ?_, hx, hn⟩
    obtain ⟨cs, hv, _⟩ := okWide_struct Tryd.underlying24 (hval 0 24 v0 rfl rfl)
    rw [hv] at hc ⊢
    have hcs : cs.toList = x.arr.toList := by simpa [Value.cells] using hc
    exact congrArg Value.agg (Array.ext' hcs)
  have hlt1 : ∀ x ∈ p1, x.block < W.heap.size := fun x hx => hW'.lt x (List.mem_append.2 (.inr (List.mem_append.2 (.inl hx))))
  obtain ⟨n1, hn1, rfl⟩ : ∃ b : Nat, b < 256 ∧ v1 = .int .u8 b := by
    obtain ⟨n, rfl⟩ := okWide_int Tryd.underlying5 (hval 1 5 v1 rfl rfl)
    obtain ⟨fuel, hf⟩ := h1
    obtain ⟨n', e, _, hw⟩ := DataW.trod_int Tryd.underlying5 hf
    have e' : n = n' := by simpa [Value.cells] using e
    subst e'
    have hw' : (0 : Int) ≤ n ∧ n ≤ 255 := by
      simp only [Lit.wf, Bool.and_eq_true, decide_eq_true_eq] at hw
      exact hw
    exact ⟨n.toNat, by omega, by rw [show ((n.toNat : Nat) : Int) = n by omega]⟩
  have hlt2 : ∀ x ∈ p2, x.block < W.heap.size := fun x hx => hW'.lt x (List.mem_append.2 (.inr (List.mem_append.2 (.inr hx))))
  obtain ⟨l2, hs2, hl2, hc2⟩ : ∃ l : List Nat, HasC W (fun b _ => b < W.heap.size) (.d (.sl (encB l))) v2 ∧ (∀ b ∈ l, b < 256) ∧ l.length ≤ Rows.uptoBulk d2 := by
    obtain ⟨fuel, hf⟩ := h2
    obtain ⟨l, v, e, g1, g2, g3⟩ := open_bytes hf hlt2
    refine ⟨l, ?_, g2, g3⟩
    obtain ⟨a, n, c, rfl, _⟩ := okWide_slice Tryd.underlying44 (hval 2 44 v2 rfl rfl)
    have e' : Value.slice a n c = v := by simpa [Value.cells] using e
    rw [e']; exact g1
  refine (lawOrder_x hx0 n1 hs2 hn1 hl2 (by omega) (by omega)).mono fun e W' ⟨he, hg⟩ => ?_
  subst he
  exact ⟨_, rfl, post_of_below (pa := p0 ++ (p1 ++ p2)) (pv := []) hW' (fun _ _ _ => trodAll_cons_mk (shut_bool Tryd.underlying4 _) trodAll_mk0) (fun sp hsp => by
      have k1 := (trodAll_cons_mk (WideElems.Trod_stays (sp' := sp) (by kernel_rfl : laidOutB Tryd.prog = true) (by kernel_rfl) (of_decide_eq_true (by kernel_rfl)) h0 (fun x hx => hg.same (hlt0 x hx)) (fun x hx => hsp x (List.mem_append.2 (.inl hx)))) (trodAll_cons_mk (WideElems.Trod_stays (sp' := sp) (by kernel_rfl : laidOutB Tryd.prog = true) (by kernel_rfl) (of_decide_eq_true (by kernel_rfl)) h1 (fun x hx => hg.same (hlt1 x hx)) (fun x hx => hsp x (List.mem_append.2 (.inr (List.mem_append.2 (.inl hx)))))) (trodAll_cons_mk (WideElems.Trod_stays (sp' := sp) (by kernel_rfl : laidOutB Tryd.prog = true) (by kernel_rfl) (of_decide_eq_true (by kernel_rfl)) h2 (fun x hx => hg.same (hlt2 x hx)) (fun x hx => hsp x (List.mem_append.2 (.inr (List.mem_append.2 (.inr hx)))))) trodAll_mk0)))
      simp only [List.append_nil] at k1
      exact k1) (fun _ _ => rfl) (by simp)
    hg (ok_one (by kernel_rfl) rfl (okWide_bool_mk Tryd.underlying4 _))⟩

theorem laid_met (os : Os) : laidMet Tryd.prog Rows.exprmergeOrderUptoRow.laid ((laidWorld os).forCall (fun _ _ => 0) ⟨#[], #[.agg #[.int .i64 0, .string ⟨#[]⟩, .string ⟨#[]⟩, .int .i64 0, .int .i64 0, .slice none 0 0], .int .u8 0, .slice none 0 0], []⟩).memory :=
  laidMet_of_run' 8 (by kernel_rfl) (by kernel_rfl)
theorem reads (os : Os) {H : Type} (enc : TypeId × Value → H) : ∃ places, DataW.whole enc Tryd.prog ((laidWorld os).forCall (fun _ _ => 0) ⟨#[], #[.agg #[.int .i64 0, .string ⟨#[]⟩, .string ⟨#[]⟩, .int .i64 0, .int .i64 0, .slice none 0 0], .int .u8 0, .slice none 0 0], []⟩).memory Tryd.f9.params.toList Rows.exprmergeOrderSpec.vars false #[Value.agg #[.int .i64 0, .string ⟨#[]⟩, .string ⟨#[]⟩, .int .i64 0, .int .i64 0, .slice none 0 0], .int .u8 0, .slice none 0 0].toList 8 = some ([.agg [.lit (.int .i64 0), .lit (.string []), .lit (.string []), .lit (.int .i64 0), .lit (.int .i64 0), .nil], .lit (.int .u8 0), .nil], [], places) :=
  ⟨[], by kernel_rfl⟩

set_option maxRecDepth 100000 in
theorem lifted (os : Os) (started : os.Started) (H : Type) (enc : TypeId × Value → H) (F : Stop.Interp) :
    ReturnsInHanded {} Tryd.checked os 9 .any ((Rows.OpenSpec.upto Rows.exprmergeOrderSpec).preRow enc Tryd.prog Tryd.f9 Rows.exprmergeOrderUptoRow.domain false Rows.exprmergeOrderUptoRow.laid) (((Rows.OpenSpec.upto Rows.exprmergeOrderSpec).at F).post enc Tryd.prog Tryd.f9 false true false false) := by
  obtain ⟨places, hx⟩ := reads os enc
  refine returnsInHanded_of_row (C := Tryd.checked) (s := Rows.OpenSpec.upto Rows.exprmergeOrderSpec) own started (by kernel_rfl) Tryd.func9
    (witness_row_at (enc := enc) (C := Tryd.checked) false (laidWorld os) #[.agg #[.int .i64 0, .string ⟨#[]⟩, .string ⟨#[]⟩, .int .i64 0, .int .i64 0, .slice none 0 0], .int .u8 0, .slice none 0 0] rfl (by kernel_rfl) (by kernel_rfl) (by kernel_rfl)
      (OpenSpec.preRow_of_cond 8 hx (by kernel_rfl) (fun k hk => by cases hk; kernel_rfl) (by kernel_rfl) (laid_met os))) ?_
  intro W base args ds gs before hval hW _ hcond _ _ _ _
  exact contract H enc W base args ds gs before hval hW (hcond _ rfl)

theorem said : Rows.ExprmergeOrderUptoSaid :=
  OpenClaim.holds_of_cond 9 Tryd.f9 rfl rfl rfl rfl rfl rfl rfl ⟨rfl, rfl, rfl, rfl, rfl⟩ rfl rfl rfl rfl rfl (by kernel_rfl) Tryd.func9 (by kernel_rfl)
    (of_decide_eq_true (by kernel_rfl)) (by unfold Func.isWrapper; first | (rw [if_pos (by decide +kernel)]; kernel_rfl) | (rw [if_neg (by decide +kernel)]; exact ⟨rfl, rfl⟩))
    (fun os started H enc _ F => by rw [OpenClaim.pre_eq_preRow]; exact lifted os started H enc F)

theorem plain (f : FuncId) (fn : Func) (hf : Tryd.pinned.checked.prog.funcNamed Rows.exprmergeOrderUptoRow.func = some f) (hfn : Tryd.pinned.checked.prog.funcs[f]? = some fn) :
    false = Tryd.pinned.checked.prog.looks [] ∧ ∀ (j : Nat) t, fn.params[j]? = some t → Tryd.pinned.checked.prog.wantsStandIn t = false := by
  obtain rfl : f = 9 := Option.some.inj ((show Tryd.prog.funcNamed Rows.exprmergeOrderUptoRow.func = some 9 by kernel_rfl).symm.trans hf) |>.symm
  obtain rfl : fn = Tryd.f9 := (Option.some.inj (Tryd.func9.symm.trans hfn)).symm
  refine ⟨by kernel_rfl, fun j t ht => ?_⟩
  rw [Tryd.params9] at ht
  have ht2 : t = 24 ∨ t = 5 ∨ t = 44 := by simpa using Array.mem_of_getElem? ht
  rcases ht2 with rfl | rfl | rfl
  · exact (show Tryd.prog.wantsStandIn 24 = false by kernel_rfl)
  · exact (show Tryd.prog.wantsStandIn 5 = false by kernel_rfl)
  · exact (show Tryd.prog.wantsStandIn 44 = false by kernel_rfl)

theorem card : Rows.ExprmergeOrderUptoCardSaid :=
  Claim7.holds_tied_plain_at .later [] _ _ _ _ said (fun _ h => by cases h) (by kernel_rfl) (fun _ h => by cases h) exprmergeOrderUpto_row_tie rfl ⟨rfl, rfl⟩ (by kernel_rfl) rfl plain (by kernel_rfl)
end Go.Proofs.YtiagjpiclnmpkaaDoor.exprmergeOrder
