/- Opposite of the reference of layer 32. -/
import Derived.Test.YtiagjpiclnmpkaaDoorExZb
namespace Go.Proofs.YtiagjpiclnmpkaaDoor
open Go.RowKit Go.ChangeShapes Go.WideShapes

/-- the sides of a conflict exchanged -/
def oppS (k : Int) (l : List Ex) : List Ex := if k = 15 ∧ l.length = 3 then l.reverse else l
mutual
def oppE : Ex → Ex
  | .mk k n m i d s => .mk k n m i d (oppS k (oppL s))
def oppL : List Ex → List Ex
  | [] => []
  | e :: es => oppE e :: oppL es
end
theorem oppL_length : ∀ l : List Ex, (oppL l).length = l.length
  | [] => by simp [oppL]
  | e :: es => by simp [oppL, oppL_length es]
theorem oppL_get : ∀ (l : List Ex) (j : Nat) (hl : j < l.length) (h : j < (oppL l).length), (oppL l)[j] = oppE l[j]
  | e :: es, 0, _, _ => by simp [oppL]
  | e :: es, j + 1, hl, h => by
    simp only [oppL, List.getElem_cons_succ]
    exact oppL_get es j (by simpa using hl) _
  | [], j, hl, _ => by simp at hl
theorem list_three {l : List Ex} (h : l.length = 3) : ∃ a b c, l = [a, b, c] := by
  match l, h with
  | [a, b, c], _ => exact ⟨a, b, c, rfl⟩
abbrev arrE (t : Ex) (p : Option Addr) (c : Nat) : List Value := [.int .i64 t.kind, .string t.name, .string t.more, .int .i64 t.int, .int .i64 t.den, .slice p t.sub.length c]
abbrev rowE3 (a b c : Ex) (pa pb pc : Option Addr) (ca cb cc : Nat) : Array Value := #[.int .i64 a.kind, .string a.name, .string a.more, .int .i64 a.int, .int .i64 a.den, .slice pa a.sub.length ca, .int .i64 b.kind, .string b.name, .string b.more, .int .i64 b.int, .int .i64 b.den, .slice pb b.sub.length cb, .int .i64 c.kind, .string c.name, .string c.more, .int .i64 c.int, .int .i64 c.den, .slice pc c.sub.length cc]
theorem three_subP {W : World} {Q : Nat → Prop} {a b c : Ex} {pa pb pc : Option Addr} {ca cb cc g : Nat} (ha : SubP W Q a.sub (.slice pa a.sub.length ca)) (hb : SubP W Q b.sub (.slice pb b.sub.length cb)) (hc : SubP W Q c.sub (.slice pc c.sub.length cc)) (hQ : Q g)
    (hr : W.heap[g]? = some (.cells (rowE3 a b c pa pb pc ca cb cc) 24 (0, 0))) : SubP W Q [a, b, c] (.slice (some ⟨g, 0, none⟩) 3 3) := by
  refine ⟨_, 3, rfl, Nat.le_refl _, fun _ => ⟨g, 0, rfl, hQ, rowP_cons.2 ⟨⟨_, ?_, ?_, ?_, ?_, ?_, ?_, ha⟩, rowP_cons.2 ⟨⟨_, ?_, ?_, ?_, ?_, ?_, ?_, hb⟩, rowP_cons.2 ⟨⟨_, ?_, ?_, ?_, ?_, ?_, ?_, hc⟩, rowP_nil⟩⟩⟩⟩⟩ <;> simp [World.cell?, hr]
theorem block6 {A : World} {g : Nat} (a b c d e f : Value) (x : Nat) (h : x ≠ g) : ((((((A.setCell ⟨g, 0, none⟩ a).setCell ⟨g, 1, none⟩ b).setCell ⟨g, 2, none⟩ c).setCell ⟨g, 3, none⟩ d).setCell ⟨g, 4, none⟩ e).setCell ⟨g, 5, none⟩ f).heap[x]? = A.heap[x]? :=
  (Below.heap_setCell _ _ _ _ h).trans ((Below.heap_setCell _ _ _ _ h).trans ((Below.heap_setCell _ _ _ _ h).trans ((Below.heap_setCell _ _ _ _ h).trans ((Below.heap_setCell _ _ _ _ h).trans (Below.heap_setCell _ _ _ _ h)))))
set_option maxRecDepth 100000 in
set_option maxHeartbeats 8000000 in
theorem opp_step (N : Nat) (ih : ∀ (k : Int) (n m : ByteArray) (i d : Int) (sub : List Ex) (p : Option Addr) (c : Nat) (P : Nat → Prop) (w : World) (_ : ∀ b, P b → b < w.heap.size) (_ : nodesL sub < N) (_ : nodesL sub ≤ 1048576) (_ : SubP w P sub (.slice p sub.length c)), Calls Tryd.prog 17 #[.agg #[.int .i64 k, .string n, .string m, .int .i64 i, .int .i64 d, .slice p sub.length c]] w (RetEx P w (oppE (.mk k n m i d sub))))
    (k : Int) (n m : ByteArray) (i d : Int) (sub : List Ex) (p : Option Addr) (c : Nat) (P : Nat → Prop) (w : World) (hP : ∀ b, P b → b < w.heap.size) (hN : nodesL sub < N + 1) (hm : nodesL sub ≤ 1048576) (hs : SubP w P sub (.slice p sub.length c)) :
    Calls Tryd.prog 17 #[.agg #[.int .i64 k, .string n, .string m, .int .i64 i, .int .i64 d, .slice p sub.length c]] w (RetEx P w (oppE (.mk k n m i d sub))) := by
  have HML := Lib.hid (oppL_length sub)
  have HIH := Lib.hid ih
  have HP := Lib.hid hP
  have HS := Lib.hid hs
  have hln := length_le_nodesL sub
  clear ih hP hs
  obtain ⟨W5, hW5⟩ : ∃ W5, (w.alloc (.cells #[.int .i64 k, .string n, .string m, .int .i64 i, .int .i64 d, .slice p sub.length c] 24)).alloc (.cells zeroE 24) = W5 := ⟨_, rfl⟩
  have hB5 : W5.heap[w.heap.size]? = some (.cells #[.int .i64 k, .string n, .string m, .int .i64 i, .int .i64 d, .slice p sub.length c] 24 (0, 0)) := by
    rw [← hW5]; exact (Below.heap_alloc _ _ _ (by simp)).trans (World.alloc_heap_new w _)
  have hR5 : W5.heap[w.heap.size + 1]? = some (.cells zeroE 24 (0, 0)) := by
    have h := World.alloc_heap_new (w.alloc (.cells #[.int .i64 k, .string n, .string m, .int .i64 i, .int .i64 d, .slice p sub.length c] 24)) (.cells zeroE 24)
    rw [World.size_alloc, hW5] at h; exact h
  have hs5 : W5.heap.size = w.heap.size + 1 + 1 := by rw [← hW5]; simp
  have hL5 : Below w.heap.size w W5 := by rw [← hW5]; exact ((Below.refl _ _).alloc (Nat.le_refl _) _).alloc (by simp) _
  obtain ⟨W6, hW6⟩ : ∃ W6, W5.alloc (.cells #[.int .i64 k, .string n, .string m, .int .i64 i, .int .i64 d, .slice none 0 0] 24) = W6 := ⟨_, rfl⟩
  have HR6 : Hid (RMergeRel P W5 k n m i d sub.length (oppL sub) (.int .i64 0) W6) := Lib.hid (by rw [← hW6]; exact ⟨0, _, by omega, rfl, fillA_nil _ _ _ _, World.alloc_heap_new W5 _, (Below.refl _ _).alloc (Nat.le_refl _) _, by simp⟩)
  have HW5 := Lib.hid hW5
  have HW6 := Lib.hid hW6
  have HB5 := Lib.hid hB5
  have HR5 := Lib.hid hR5
  have HL5 := Lib.hid hL5
  clear hW5 hW6 hB5 hR5 hL5
  go_enter Tryd.func17, Tryd.ntmps17
  go_wp2_with fail
  rw [HW5.out]
  simp only [← hs5]
  rw [HW6.out]
  have q5 : w.heap.size + 1 < W5.heap.size := by omega
  have q6 : w.heap.size < W5.heap.size := by omega
  clear hs5
  go_loopw [4] (fun i' wr => RMergeRel P W5 k n m i d sub.length (oppL sub) i' wr) (fun i' _ => sub.length - (intOf i').toNat)
  case atStart => exact HR6.out
  case round =>
    obtain ⟨j, v, hj, rfl, hfill, hE, hBr, hgw⟩ := hrel
    have HFILL := Lib.hid hfill
    have HE := Lib.hid hE
    obtain ⟨e0, e1, e2, e3, e4, e5⟩ := cells6 hE
    have hszr := hBr.size
    have HBX := Lib.hid ((hBr.block w.heap.size (by omega)).trans HB5.out)
    have HRS := Lib.hid ((hBr.block (w.heap.size + 1) (by omega)).trans HR5.out)
    have HBW : Hid (Below w.heap.size w wr) := Lib.hid (HL5.out.trans (hBr.mono (by omega)))
    clear hfill hE
    by_cases hlt : j < sub.length
    · obtain ⟨_, _, _, _, _, b5⟩ := cells6 HBX.out
      have hstay := stay_below HBW.out HP.out
      obtain ⟨bb, ob, pB, cB, rfl, hPb, gb0, gb1, gb2, gb3, gb4, gb5, gb6⟩ := subP_at HS.out hstay j hlt
      have hD : Below wr.heap.size wr wr.drew := below_drewE (Below.refl _ _)
      have hPr : ∀ b, P b → b < wr.heap.size := fun b hb => by have := HP.out b hb; omega
      have hst2 : StayP P wr wr.drew := stay_below hD hPr
      have nb1 := nodesL_get sub j hlt
      have nb2 := nodesE_eq sub[j]
      have hC := Lib.hid (HIH.out sub[j].kind sub[j].name sub[j].more sub[j].int sub[j].den sub[j].sub pB cB P wr.drew hPr (by omega) (by omega) (subP_stay (fun _ h => h) hst2 gb6))
      rw [Ex.eta] at hC
      have HT := Lib.hid (fun h => oppL_get sub j hlt h)
      generalize oppE sub[j] = tm at *
      have HPR := Lib.hid hPr
      have k0 : (0 : Int) ≤ (j : Int) := by omega
      have k1 : (j : Int) < (sub.length : Int) := by omega
      have hbbl : bb < w.heap.size := HP.out bb hPb
      clear gb6 nb1 nb2 hD hPr hst2 hstay
      have HSM : Hid (∀ w' : World, (∀ b, b < W5.heap.size + 1 → w'.heap[b]? = wr.heap[b]?) → (w'.cell? ⟨W5.heap.size, 5, none⟩ = some (v) ∧ w'.cell? ⟨w.heap.size, 5, none⟩ = some (.slice (some ⟨bb, ob, none⟩) sub.length c) ∧ w'.cell? ⟨bb, ob + j * 6, none⟩ = some (.int .i64 sub[j].kind) ∧ w'.cell? ⟨bb, ob + j * 6 + 1, none⟩ = some (.string sub[j].name) ∧ w'.cell? ⟨bb, ob + j * 6 + 2, none⟩ = some (.string sub[j].more) ∧ w'.cell? ⟨bb, ob + j * 6 + 3, none⟩ = some (.int .i64 sub[j].int) ∧ w'.cell? ⟨bb, ob + j * 6 + 4, none⟩ = some (.int .i64 sub[j].den) ∧ w'.cell? ⟨bb, ob + j * 6 + 5, none⟩ = some (.slice pB sub[j].sub.length cB))) := Lib.hid (fun w' h => ⟨(World.cell?_of_block (h _ (by (show W5.heap.size < W5.heap.size + 1); omega))).trans e5, (World.cell?_of_block (h _ (by (show w.heap.size < W5.heap.size + 1); omega))).trans b5, (World.cell?_of_block (h _ (by (show bb < W5.heap.size + 1); omega))).trans gb0, (World.cell?_of_block (h _ (by (show bb < W5.heap.size + 1); omega))).trans gb1, (World.cell?_of_block (h _ (by (show bb < W5.heap.size + 1); omega))).trans gb2, (World.cell?_of_block (h _ (by (show bb < W5.heap.size + 1); omega))).trans gb3, (World.cell?_of_block (h _ (by (show bb < W5.heap.size + 1); omega))).trans gb4, (World.cell?_of_block (h _ (by (show bb < W5.heap.size + 1); omega))).trans gb5⟩)
      have HRF : Hid (∀ b, b < W5.heap.size + 1 → wr.drew.heap[b]? = wr.heap[b]?) := Lib.hid (fun _ _ => rfl)
      go_wp2_with fail
      clear e0 e1 e2 e3 e4 e5 b5 gb0 gb1 gb2 gb3 gb4 gb5
      refine wp_region_T (fun w' => w'.cell? ⟨W5.heap.size, 5, none⟩ = some (v) ∧ w'.cell? ⟨w.heap.size, 5, none⟩ = some (.slice (some ⟨bb, ob, none⟩) sub.length c) ∧ w'.cell? ⟨bb, ob + j * 6, none⟩ = some (.int .i64 sub[j].kind) ∧ w'.cell? ⟨bb, ob + j * 6 + 1, none⟩ = some (.string sub[j].name) ∧ w'.cell? ⟨bb, ob + j * 6 + 2, none⟩ = some (.string sub[j].more) ∧ w'.cell? ⟨bb, ob + j * 6 + 3, none⟩ = some (.int .i64 sub[j].int) ∧ w'.cell? ⟨bb, ob + j * 6 + 4, none⟩ = some (.int .i64 sub[j].den) ∧ w'.cell? ⟨bb, ob + j * 6 + 5, none⟩ = some (.slice pB sub[j].sub.length cB)) 11 (by kernel_rfl) (HSM.out wr.drew HRF.out) (fun hHeld => ?_)
      refine wpAnyT_take (i := 0) (v := ?v0) rfl (by kernel_rfl) (by kernel_rfl) (by kernel_rfl) (by kernel_rfl) (by decide) (fun _ _ _ h => h) (Or.inl ⟨by rfl, ?hy0⟩) hHeld ?rest0
      case hy0 => (intro w hSw; (try dsimp only at hSw); go_simp; (try with_reducible rfl))
      try simp only [Act.put, List.setIfInBounds_toArray]
      refine wpAnyT_take (i := 1) (v := ?v1) rfl (by kernel_rfl) (by kernel_rfl) (by kernel_rfl) (by kernel_rfl) (by decide) (fun _ _ _ h => h) (Or.inl ⟨by rfl, ?hy1⟩) hHeld ?rest1
      case hy1 => (intro w hSw; (try dsimp only at hSw); go_simp; (try with_reducible rfl))
      try simp only [Act.put]
      refine wpAnyT_take (i := 2) (v := ?v2) rfl (by kernel_rfl) (by kernel_rfl) (by kernel_rfl) (by kernel_rfl) (by decide) (fun _ _ _ h => h) (Or.inl ⟨by rfl, ?hy2⟩) hHeld ?rest2
      case hy2 => (intro w hSw; (try dsimp only at hSw); go_simp; (try with_reducible rfl))
      try simp only [Act.put]
      refine wpAnyT_take (i := 3) (v := ?v3) rfl (by kernel_rfl) (by kernel_rfl) (by kernel_rfl) (by kernel_rfl) (by decide) (fun _ _ _ h => h) (Or.inl ⟨by rfl, ?hy3⟩) hHeld ?rest3
      case hy3 => (intro w hSw; (try dsimp only at hSw); go_simp; (try with_reducible rfl))
      try simp only [Act.put]
      refine wpAnyT_take (i := 4) (v := ?v4) rfl (by kernel_rfl) (by kernel_rfl) (by kernel_rfl) (by kernel_rfl) (by decide) (fun _ _ _ h => h) (Or.inl ⟨by rfl, ?hy4⟩) hHeld ?rest4
      case hy4 => (intro w hSw; (try dsimp only at hSw); go_simp; (try with_reducible rfl))
      try simp only [Act.put]
      refine wpAnyT_take (i := 5) (v := ?v5) rfl (by kernel_rfl) (by kernel_rfl) (by kernel_rfl) (by kernel_rfl) (by decide) (fun _ _ _ h => h) (Or.inl ⟨by rfl, ?hy5⟩) hHeld ?rest5
      case hy5 => (intro w hSw; (try dsimp only at hSw); go_simp; (try with_reducible rfl))
      try simp only [Act.put]
      refine wpAnyT_take (i := 6) (v := ?v6) rfl (by kernel_rfl) (by kernel_rfl) (by kernel_rfl) (by kernel_rfl) (by decide) (fun _ _ _ h => h) (Or.inl ⟨by rfl, ?hy6⟩) hHeld ?rest6
      case hy6 => (intro w hSw; (try dsimp only at hSw); go_simp; (try with_reducible rfl))
      try simp only [Act.put]
      refine wpAnyT_one (i := 7) (by kernel_rfl) rfl (fun K hK => ?_)
      go_simp
      refine (hC.out).mono ?_
      rintro e W7 ⟨v7, rfl, hex, hb7⟩
      obtain ⟨sv, rfl, hsub⟩ := exP_iff.1 hex
      obtain ⟨px, cx, rfl, _, _⟩ := id hsub
      have HK7 : Hid (∀ b, b < W5.heap.size + 1 → W7.heap[b]? = wr.heap[b]?) := Lib.hid (fun b hb => hb7.block b (by (show b < wr.heap.size); omega))
      go_wp2_with fail
      refine hK.out _ _ (fun _ => HSM.out _ HK7.out) ?_
      clear hK K hHeld
      have hHeld := HSM.out _ HK7.out
      try simp only [Act.put, List.setIfInBounds_toArray, List.set_cons_zero, List.set_cons_succ]
      refine wpAnyT_one (i := 8) (by kernel_rfl) rfl (fun K hK => ?_)
      go_simp
      have HK8 : Hid (∀ b, b < W5.heap.size + 1 → (W7.alloc (.cells #[.int .i64 tm.kind, .string tm.name, .string tm.more, .int .i64 tm.int, .int .i64 tm.den, .slice px tm.sub.length cx] 24)).heap[b]? = wr.heap[b]?) := Lib.hid (fun b hb => (Below.heap_alloc _ _ _ (by have := hb7.size; have h9 : wr.heap.size ≤ W7.heap.size := hb7.size; omega)).trans (HK7.out b hb))
      refine hK.out _ _ (fun _ => HSM.out _ HK8.out) ?_
      clear hK K hHeld
      try simp only [Act.put, List.setIfInBounds_toArray, List.set_cons_zero, List.set_cons_succ]
      obtain ⟨i0, hi0, hz0, hz1, hz2⟩ := info_parts infoExpr
      have hF7 := (HFILL.out.kept (below_drewE (Below.refl _ _)) HPR.out).kept hb7 HPR.out
      have h97 : wr.heap.size ≤ W7.heap.size := hb7.size
      have hF8 := hF7.kept (B := W7.alloc (.cells #[.int .i64 tm.kind, .string tm.name, .string tm.more, .int .i64 tm.int, .int .i64 tm.den, .slice px tm.sub.length cx] 24)) ((Below.refl _ _).alloc (Nat.le_refl _) _) (fun b hb => by have := HPR.out b hb; omega)
      obtain ⟨xs, hown⟩ := hF8.own
      refine wpAnyT_one (i := 9) (by kernel_rfl) rfl (fun K hK => ?_)
      refine step_append_lies _ (by rfl) _ _ _ (by rfl) (W5.heap.size + 1) 24 i0 _ 6 80 Tryd.underlying22 hi0 hz0 hz1 hz2 rfl (by omega) v j xs (by rfl) hown ⟨W7.heap.size, 0, none⟩ 1 1 [.int .i64 tm.kind, .string tm.name, .string tm.more, .int .i64 tm.int, .int .i64 tm.den, .slice px tm.sub.length cx] (by rfl) (by rfl) (World.news_of_block (World.alloc_heap_new W7 _)) (by simp [Value.oneCell']) (by omega) (by unfold maxLen; omega) (by omega) (by simp; omega) (W7.heap.size + 1) (by simp) ?_
      intro gg cap9 w9 hown9 hgrow hat hlt9
      have hvl : ∀ b, wr.heap.size ≤ b → v.ownBlock ≠ some b := fun b hb e => by
        obtain ⟨ys, hy⟩ := HFILL.out.own
        have := (hy.lt b e).2; omega
      have hF9 := hF8.push hown hown9 hgrow (by rcases hat with h | h; exact .inl h; exact .inr (by simp [h])) (subP_stay (fun b hb => (by
        rcases hb with h1 | ⟨h1, h2⟩
        · exact .inl h1
        · have h1' : wr.heap.size ≤ b := h1
          exact .inr ⟨by omega, by simp; omega, hvl b h1'⟩)) (stay_below ((Below.refl _ _).alloc (Nat.le_refl _) _) (fun b hb => (by
        rcases hb with h1 | h1
        · have := HPR.out b h1; omega
        · exact h1.2))) hsub) (fun b hb => by have := HP.out b hb; omega) (by simp; omega) (fun h => by rw [HT.out h]; exact (Ex.eta tm).symm)
      have HF9 := Lib.hid hF9
      have HG9 := Lib.hid hgrow
      have HO9 := Lib.hid hown
      have hne9 : ∀ b, b < W5.heap.size + 1 → some b ≠ v.ownBlock := fun b hb e => by have := (hown.lt b e.symm).1; omega
      have HK9 : Hid (∀ b, b < W5.heap.size + 1 → w9.heap[b]? = wr.heap[b]?) := Lib.hid (fun b hb => (hgrow.block b (by simp; omega) (hne9 b hb)).trans (HK8.out b hb))
      refine hK.out _ _ (fun _ => HSM.out _ HK9.out) ?_
      clear hK K
      have hHeld := HSM.out _ HK9.out
      have HE9 := Lib.hid ((HK9.out W5.heap.size (by omega)).trans HE.out)
      have hfr := free6 HE9.out
      try simp only [Act.put, List.setIfInBounds_toArray]
      refine wpAnyT_one (i := 10) (by kernel_rfl) rfl (fun K hK => ?_)
      go_simp
      refine hK.out _ _ (fun _ => hHeld) ?_
      clear hK K
      try simp only [Act.put, List.setIfInBounds_toArray, List.set_cons_zero, List.set_cons_succ]
      obtain ⟨_, _, _, _, _, x5⟩ := cells6 HE9.out
      obtain ⟨_, _, _, _, _, y5⟩ := hfr
      refine wpAnyT_one (i := 11) (by kernel_rfl) rfl (fun K hK => ?_)
      go_simp
      refine hK.out _ _ (fun h => absurd rfl h) ?_
      clear hK K
      refine wpAnyT_done (by kernel_rfl) ?_ _
      have HF10 := Lib.hid (HF9.out.other (x := W5.heap.size) (B := w9.setCell ⟨W5.heap.size, 5, none⟩ (.slice (some ⟨gg, 0, none⟩) (j + 1) cap9)) (by omega) (fun b hb => by have := HP.out b hb; omega) (fun b hb => Below.heap_setCell _ _ _ _ hb) (by simp [World.setCell]))
      have HE10 : Hid ((w9.setCell ⟨W5.heap.size, 5, none⟩ (.slice (some ⟨gg, 0, none⟩) (j + 1) cap9)).heap[W5.heap.size]? = some (.cells #[.int .i64 k, .string n, .string m, .int .i64 i, .int .i64 d, .slice (some ⟨gg, 0, none⟩) (j + 1) cap9] 24 (0, 0))) := Lib.hid (setCell_row (o := 5) _ HE9.out)
      have HB7 : Hid (Below W5.heap.size W5 W7) := Lib.hid ((below_drewE hBr).trans (hb7.mono hszr))
      have HB10 : Hid (Below W5.heap.size W5 (w9.setCell ⟨W5.heap.size, 5, none⟩ (.slice (some ⟨gg, 0, none⟩) (j + 1) cap9))) := Lib.hid ((((HB7.out.alloc (by omega) _).grown HG9.out (by simp; omega) (fun k e => by have := (HO9.out.lt k e).1; omega))).setCell (p := ⟨W5.heap.size, 5, none⟩) (Nat.le_refl _) _)
      have hs10 : W5.heap.size + 1 ≤ w9.heap.size := by have := HG9.out.size; simp at this; omega
      go_wp2_with fail
      go_roundw
      case rel => exact ⟨j + 1, _, by omega, by go_num, HF10.out, HE10.out, HB10.out, by simpa [World.setCell] using hs10⟩
      case measure => simp [intOf]; omega
    · obtain rfl : j = sub.length := by omega
      obtain ⟨b0, b1, b2, b3, b4, b5⟩ := cells6 HBX.out
      by_cases h15 : k = 15 ∧ sub.length = 3
      · obtain ⟨rfl, h3⟩ := h15
        obtain ⟨ys, hown⟩ := HFILL.out.own
        have hlt9 := hown.lt
        obtain ⟨hyl, h2 | ⟨g9, cap9, cur, rfl, _⟩⟩ := hown
        · exfalso
          have h0 : sub.length = 0 := by first | exact h2.2 | exact h2.1
          omega
        · clear hyl
          obtain ⟨hg1, hg2⟩ := hlt9 g9 rfl
          clear hlt9
          obtain ⟨t0, t1, t2, hts⟩ := list_three ((oppL_length sub).trans h3)
          have HTE : Hid (oppE (.mk 15 n m i d sub) = .mk 15 n m i d [t2, t1, t0]) := Lib.hid (by rw [oppE, oppS, if_pos ⟨rfl, (oppL_length sub).trans h3⟩, hts]; rfl)
          have hF := HFILL.out
          rw [hts] at hF
          obtain ⟨s0, a00, a01, a02, a03, a04, a05, a06⟩ : NodeP wr (fun b => P b ∨ (W5.heap.size + 1 ≤ b ∧ b < wr.heap.size ∧ b ≠ g9)) g9 0 t0 := by simpa using hF.node g9 rfl 0 (by omega) (by simp)
          obtain ⟨s1, a10, a11, a12, a13, a14, a15, a16⟩ : NodeP wr (fun b => P b ∨ (W5.heap.size + 1 ≤ b ∧ b < wr.heap.size ∧ b ≠ g9)) g9 6 t1 := by simpa using hF.node g9 rfl 1 (by omega) (by simp)
          obtain ⟨s2, a20, a21, a22, a23, a24, a25, a26⟩ : NodeP wr (fun b => P b ∨ (W5.heap.size + 1 ≤ b ∧ b < wr.heap.size ∧ b ≠ g9)) g9 12 t2 := by simpa using hF.node g9 rfl 2 (by omega) (by simp)
          obtain ⟨p0, c0, rfl, _, _⟩ := id a06
          obtain ⟨p1, c1, rfl, _, _⟩ := id a16
          obtain ⟨p2, c2, rfl, _, _⟩ := id a26
          have HA0 := Lib.hid a06
          have HA1 := Lib.hid a16
          have HA2 := Lib.hid a26
          have HSM : Hid (∀ w' : World, (∀ b, b < wr.heap.size → w'.heap[b]? = wr.heap[b]?) → (w'.cell? ⟨W5.heap.size, 5, none⟩ = some (.slice (some ⟨g9, 0, none⟩) sub.length cap9) ∧ w'.cell? ⟨g9, 0, none⟩ = some (.int .i64 t0.kind) ∧ w'.cell? ⟨g9, 1, none⟩ = some (.string t0.name) ∧ w'.cell? ⟨g9, 2, none⟩ = some (.string t0.more) ∧ w'.cell? ⟨g9, 3, none⟩ = some (.int .i64 t0.int) ∧ w'.cell? ⟨g9, 4, none⟩ = some (.int .i64 t0.den) ∧ w'.cell? ⟨g9, 5, none⟩ = some (.slice p0 t0.sub.length c0) ∧ w'.cell? ⟨g9, 6, none⟩ = some (.int .i64 t1.kind) ∧ w'.cell? ⟨g9, 7, none⟩ = some (.string t1.name) ∧ w'.cell? ⟨g9, 8, none⟩ = some (.string t1.more) ∧ w'.cell? ⟨g9, 9, none⟩ = some (.int .i64 t1.int) ∧ w'.cell? ⟨g9, 10, none⟩ = some (.int .i64 t1.den) ∧ w'.cell? ⟨g9, 11, none⟩ = some (.slice p1 t1.sub.length c1) ∧ w'.cell? ⟨g9, 12, none⟩ = some (.int .i64 t2.kind) ∧ w'.cell? ⟨g9, 13, none⟩ = some (.string t2.name) ∧ w'.cell? ⟨g9, 14, none⟩ = some (.string t2.more) ∧ w'.cell? ⟨g9, 15, none⟩ = some (.int .i64 t2.int) ∧ w'.cell? ⟨g9, 16, none⟩ = some (.int .i64 t2.den) ∧ w'.cell? ⟨g9, 17, none⟩ = some (.slice p2 t2.sub.length c2))) := Lib.hid (fun w' h => ⟨(World.cell?_of_block (h _ (by (show W5.heap.size < wr.heap.size); omega))).trans e5, (World.cell?_of_block (h _ (by (show g9 < wr.heap.size); omega))).trans a00, (World.cell?_of_block (h _ (by (show g9 < wr.heap.size); omega))).trans a01, (World.cell?_of_block (h _ (by (show g9 < wr.heap.size); omega))).trans a02, (World.cell?_of_block (h _ (by (show g9 < wr.heap.size); omega))).trans a03, (World.cell?_of_block (h _ (by (show g9 < wr.heap.size); omega))).trans a04, (World.cell?_of_block (h _ (by (show g9 < wr.heap.size); omega))).trans a05, (World.cell?_of_block (h _ (by (show g9 < wr.heap.size); omega))).trans a10, (World.cell?_of_block (h _ (by (show g9 < wr.heap.size); omega))).trans a11, (World.cell?_of_block (h _ (by (show g9 < wr.heap.size); omega))).trans a12, (World.cell?_of_block (h _ (by (show g9 < wr.heap.size); omega))).trans a13, (World.cell?_of_block (h _ (by (show g9 < wr.heap.size); omega))).trans a14, (World.cell?_of_block (h _ (by (show g9 < wr.heap.size); omega))).trans a15, (World.cell?_of_block (h _ (by (show g9 < wr.heap.size); omega))).trans a20, (World.cell?_of_block (h _ (by (show g9 < wr.heap.size); omega))).trans a21, (World.cell?_of_block (h _ (by (show g9 < wr.heap.size); omega))).trans a22, (World.cell?_of_block (h _ (by (show g9 < wr.heap.size); omega))).trans a23, (World.cell?_of_block (h _ (by (show g9 < wr.heap.size); omega))).trans a24, (World.cell?_of_block (h _ (by (show g9 < wr.heap.size); omega))).trans a25⟩)
          have h9 : ((sub.length : Int) == 3) = true := by rw [beq_iff_eq]; omega
          have k0 : (0 : Int) < (sub.length : Int) := by omega
          have k1 : (1 : Int) < (sub.length : Int) := by omega
          have k2 : (2 : Int) < (sub.length : Int) := by omega
          clear hF hts a06 a16 a26 a00 a01 a02 a03 a04 a05 a10 a11 a12 a13 a14 a15 a20 a21 a22 a23 a24 a25
          go_wp2_with fail
          clear e0 e1 e2 e3 e4 e5 b0 b1 b2 b3 b4 b5
          refine wp_region_T (fun w' => w'.cell? ⟨W5.heap.size, 5, none⟩ = some (.slice (some ⟨g9, 0, none⟩) sub.length cap9) ∧ w'.cell? ⟨g9, 0, none⟩ = some (.int .i64 t0.kind) ∧ w'.cell? ⟨g9, 1, none⟩ = some (.string t0.name) ∧ w'.cell? ⟨g9, 2, none⟩ = some (.string t0.more) ∧ w'.cell? ⟨g9, 3, none⟩ = some (.int .i64 t0.int) ∧ w'.cell? ⟨g9, 4, none⟩ = some (.int .i64 t0.den) ∧ w'.cell? ⟨g9, 5, none⟩ = some (.slice p0 t0.sub.length c0) ∧ w'.cell? ⟨g9, 6, none⟩ = some (.int .i64 t1.kind) ∧ w'.cell? ⟨g9, 7, none⟩ = some (.string t1.name) ∧ w'.cell? ⟨g9, 8, none⟩ = some (.string t1.more) ∧ w'.cell? ⟨g9, 9, none⟩ = some (.int .i64 t1.int) ∧ w'.cell? ⟨g9, 10, none⟩ = some (.int .i64 t1.den) ∧ w'.cell? ⟨g9, 11, none⟩ = some (.slice p1 t1.sub.length c1) ∧ w'.cell? ⟨g9, 12, none⟩ = some (.int .i64 t2.kind) ∧ w'.cell? ⟨g9, 13, none⟩ = some (.string t2.name) ∧ w'.cell? ⟨g9, 14, none⟩ = some (.string t2.more) ∧ w'.cell? ⟨g9, 15, none⟩ = some (.int .i64 t2.int) ∧ w'.cell? ⟨g9, 16, none⟩ = some (.int .i64 t2.den) ∧ w'.cell? ⟨g9, 17, none⟩ = some (.slice p2 t2.sub.length c2)) 14 (by kernel_rfl) (HSM.out wr.drew (fun _ _ => rfl)) (fun hHeld => ?_)
          refine wpAnyT_take (i := 0) (v := ?vz0) rfl (by kernel_rfl) (by kernel_rfl) (by kernel_rfl) (by kernel_rfl) (by decide) (fun _ _ _ h => h) (Or.inl ⟨by rfl, ?hyz0⟩) hHeld ?restz0
          case hyz0 => (intro w hSw; (try dsimp only at hSw); go_simp; (try with_reducible rfl))
          try simp only [Act.put, List.setIfInBounds_toArray]
          refine wpAnyT_take (i := 1) (v := ?vz1) rfl (by kernel_rfl) (by kernel_rfl) (by kernel_rfl) (by kernel_rfl) (by decide) (fun _ _ _ h => h) (Or.inl ⟨by rfl, ?hyz1⟩) hHeld ?restz1
          case hyz1 => (intro w hSw; (try dsimp only at hSw); go_simp; (try with_reducible rfl))
          try simp only [Act.put]
          refine wpAnyT_take (i := 2) (v := ?vz2) rfl (by kernel_rfl) (by kernel_rfl) (by kernel_rfl) (by kernel_rfl) (by decide) (fun _ _ _ h => h) (Or.inl ⟨by rfl, ?hyz2⟩) hHeld ?restz2
          case hyz2 => (intro w hSw; (try dsimp only at hSw); go_simp; (try with_reducible rfl))
          try simp only [Act.put]
          refine wpAnyT_take (i := 3) (v := ?vz3) rfl (by kernel_rfl) (by kernel_rfl) (by kernel_rfl) (by kernel_rfl) (by decide) (fun _ _ _ h => h) (Or.inl ⟨by rfl, ?hyz3⟩) hHeld ?restz3
          case hyz3 => (intro w hSw; (try dsimp only at hSw); go_simp; (try with_reducible rfl))
          try simp only [Act.put]
          refine wpAnyT_take (i := 4) (v := ?vz4) rfl (by kernel_rfl) (by kernel_rfl) (by kernel_rfl) (by kernel_rfl) (by decide) (fun _ _ _ h => h) (Or.inl ⟨by rfl, ?hyz4⟩) hHeld ?restz4
          case hyz4 => (intro w hSw; (try dsimp only at hSw); go_simp; (try with_reducible rfl))
          try simp only [Act.put]
          refine wpAnyT_take (i := 5) (v := ?vz5) rfl (by kernel_rfl) (by kernel_rfl) (by kernel_rfl) (by kernel_rfl) (by decide) (fun _ _ _ h => h) (Or.inl ⟨by rfl, ?hyz5⟩) hHeld ?restz5
          case hyz5 => (intro w hSw; (try dsimp only at hSw); go_simp; (try with_reducible rfl))
          try simp only [Act.put]
          refine wpAnyT_take (i := 6) (v := ?vz6) rfl (by kernel_rfl) (by kernel_rfl) (by kernel_rfl) (by kernel_rfl) (by decide) (fun _ _ _ h => h) (Or.inl ⟨by rfl, ?hyz6⟩) hHeld ?restz6
          case hyz6 => (intro w hSw; (try dsimp only at hSw); go_simp; (try with_reducible rfl))
          try simp only [Act.put]
          refine wpAnyT_take (i := 7) (v := ?vz7) rfl (by kernel_rfl) (by kernel_rfl) (by kernel_rfl) (by kernel_rfl) (by decide) (fun _ _ _ h => h) (Or.inl ⟨by rfl, ?hyz7⟩) hHeld ?restz7
          case hyz7 => (intro w hSw; (try dsimp only at hSw); go_simp; (try with_reducible rfl))
          try simp only [Act.put]
          refine wpAnyT_take (i := 8) (v := ?vz8) rfl (by kernel_rfl) (by kernel_rfl) (by kernel_rfl) (by kernel_rfl) (by decide) (fun _ _ _ h => h) (Or.inl ⟨by rfl, ?hyz8⟩) hHeld ?restz8
          case hyz8 => (intro w hSw; (try dsimp only at hSw); go_simp; (try with_reducible rfl))
          try simp only [Act.put]
          refine wpAnyT_take (i := 9) (v := ?vz9) rfl (by kernel_rfl) (by kernel_rfl) (by kernel_rfl) (by kernel_rfl) (by decide) (fun _ _ _ h => h) (Or.inl ⟨by rfl, ?hyz9⟩) hHeld ?restz9
          case hyz9 => (intro w hSw; (try dsimp only at hSw); go_simp; (try with_reducible rfl))
          try simp only [Act.put]
          refine wpAnyT_take (i := 10) (v := ?vz10) rfl (by kernel_rfl) (by kernel_rfl) (by kernel_rfl) (by kernel_rfl) (by decide) (fun _ _ _ h => h) (Or.inl ⟨by rfl, ?hyz10⟩) hHeld ?restz10
          case hyz10 => (intro w hSw; (try dsimp only at hSw); go_simp; (try with_reducible rfl))
          try simp only [Act.put]
          refine wpAnyT_take (i := 11) (v := ?vz11) rfl (by kernel_rfl) (by kernel_rfl) (by kernel_rfl) (by kernel_rfl) (by decide) (fun _ _ _ h => h) (Or.inl ⟨by rfl, ?hyz11⟩) hHeld ?restz11
          case hyz11 => (intro w hSw; (try dsimp only at hSw); go_simp; (try with_reducible rfl))
          try simp only [Act.put]
          refine wpAnyT_one (i := 12) (by kernel_rfl) rfl (fun K hK => ?_)
          go_simp
          have HK2 : Hid (∀ b, b < wr.heap.size → (wr.drew.alloc (.cells #[.int .i64 t2.kind, .string t2.name, .string t2.more, .int .i64 t2.int, .int .i64 t2.den, .slice p2 t2.sub.length c2, .int .i64 t1.kind, .string t1.name, .string t1.more, .int .i64 t1.int, .int .i64 t1.den, .slice p1 t1.sub.length c1, .int .i64 t0.kind, .string t0.name, .string t0.more, .int .i64 t0.int, .int .i64 t0.den, .slice p0 t0.sub.length c0] 24)).heap[b]? = wr.heap[b]?) := Lib.hid (fun b hb => Below.heap_alloc _ _ _ hb)
          refine hK.out _ _ (fun _ => HSM.out _ HK2.out) ?_
          clear hK K hHeld
          have hHeld := HSM.out _ HK2.out
          have HK3 : Hid (∀ b, b < wr.heap.size → (wr.alloc (.cells #[.int .i64 t2.kind, .string t2.name, .string t2.more, .int .i64 t2.int, .int .i64 t2.den, .slice p2 t2.sub.length c2, .int .i64 t1.kind, .string t1.name, .string t1.more, .int .i64 t1.int, .int .i64 t1.den, .slice p1 t1.sub.length c1, .int .i64 t0.kind, .string t0.name, .string t0.more, .int .i64 t0.int, .int .i64 t0.den, .slice p0 t0.sub.length c0] 24)).heap[b]? = wr.heap[b]?) := Lib.hid (fun b hb => Below.heap_alloc _ _ _ hb)
          have HE9 := Lib.hid ((HK3.out W5.heap.size (by omega)).trans HE.out)
          have HRS9 := Lib.hid ((HK3.out (w.heap.size + 1) (by omega)).trans HRS.out)
          try simp only [Act.put, List.setIfInBounds_toArray, List.set_cons_zero, List.set_cons_succ]
          refine wpAnyT_one (i := 13) (by kernel_rfl) rfl (fun K hK => ?_)
          go_simp
          refine hK.out _ _ (fun _ => hHeld) ?_
          clear hK K
          try simp only [Act.put, List.setIfInBounds_toArray, List.set_cons_zero, List.set_cons_succ]
          obtain ⟨_, _, _, _, _, x5⟩ := cells6 HE9.out
          obtain ⟨_, _, _, _, _, y5⟩ := free6 HE9.out
          refine wpAnyT_one (i := 14) (by kernel_rfl) rfl (fun K hK => ?_)
          go_simp
          refine hK.out _ _ (fun h => absurd rfl h) ?_
          clear hK K
          refine wpAnyT_done (by kernel_rfl) ?_ _
          obtain ⟨Wz, hWz⟩ : ∃ Wz, ((wr.alloc (.cells #[.int .i64 t2.kind, .string t2.name, .string t2.more, .int .i64 t2.int, .int .i64 t2.den, .slice p2 t2.sub.length c2, .int .i64 t1.kind, .string t1.name, .string t1.more, .int .i64 t1.int, .int .i64 t1.den, .slice p1 t1.sub.length c1, .int .i64 t0.kind, .string t0.name, .string t0.more, .int .i64 t0.int, .int .i64 t0.den, .slice p0 t0.sub.length c0] 24)).setCell ⟨W5.heap.size, 5, none⟩ (.slice (some ⟨wr.heap.size, 0, none⟩) 3 3)).drew = Wz := ⟨_, rfl⟩
          have hEz : Wz.heap[W5.heap.size]? = some (.cells #[.int .i64 15, .string n, .string m, .int .i64 i, .int .i64 d, .slice (some ⟨wr.heap.size, 0, none⟩) 3 3] 24 (0, 0)) := by rw [← hWz]; exact setCell_row (o := 5) _ HE9.out
          have hRz : Wz.heap[w.heap.size + 1]? = some (.cells zeroE 24 (0, 0)) := by rw [← hWz]; exact (Below.heap_setCell _ _ _ _ (by show w.heap.size + 1 ≠ W5.heap.size; omega)).trans HRS9.out
          have hrow : Wz.heap[wr.heap.size]? = some (.cells #[.int .i64 t2.kind, .string t2.name, .string t2.more, .int .i64 t2.int, .int .i64 t2.den, .slice p2 t2.sub.length c2, .int .i64 t1.kind, .string t1.name, .string t1.more, .int .i64 t1.int, .int .i64 t1.den, .slice p1 t1.sub.length c1, .int .i64 t0.kind, .string t0.name, .string t0.more, .int .i64 t0.int, .int .i64 t0.den, .slice p0 t0.sub.length c0] 24 (0, 0)) := by
            rw [← hWz]; exact (Below.heap_setCell _ _ _ _ (by show wr.heap.size ≠ W5.heap.size; omega)).trans (World.alloc_heap_new wr _)
          have hsz : Wz.heap.size = wr.heap.size + 1 := by rw [← hWz]; simp [World.setCell, World.drew]
          have hbz1 : Below w.heap.size w Wz := by rw [← hWz]; exact below_drewE ((HBW.out.alloc (by omega) _).setCell (p := ⟨W5.heap.size, 5, none⟩) (by show w.heap.size ≤ W5.heap.size; omega) _)
          have hstz : StayP (fun b => P b ∨ (W5.heap.size + 1 ≤ b ∧ b < wr.heap.size ∧ b ≠ g9)) wr Wz := fun b off hb v hv => by
            rw [← hWz]
            refine (World.cell?_of_block ((Below.heap_setCell _ _ _ _ ?_).trans (HK3.out b ?_))).trans hv
            · show b ≠ W5.heap.size
              rcases hb with h1 | h1
              · have := HP.out b h1; omega
              · omega
            · rcases hb with h1 | h1
              · have := HP.out b h1; omega
              · omega
          have HSTZ := Lib.hid hstz
          have HROW := Lib.hid hrow
          have HBZ := Lib.hid hbz1
          have HWZ := Lib.hid hWz
          rw [hWz]
          clear hWz hrow hbz1 hstz x5 y5 hHeld
          obtain ⟨e0, e1, e2, e3, e4, e5⟩ := cells6 hEz
          obtain ⟨z0, z1, z2, z3, z4, z5⟩ := cells6 hRz
          obtain ⟨f0, f1, f2, f3, f4, f5⟩ := free6 hRz
          go_wp2_with fail
          have hbz := below6 HBZ.out (g := w.heap.size + 1) (by omega) (.int .i64 15) (.string n) (.string m) (.int .i64 i) (.int .i64 d) (.slice (some ⟨wr.heap.size, 0, none⟩) 3 3)
          have hst := stay6 (A := Wz) (g := w.heap.size + 1) (.int .i64 15) (.string n) (.string m) (.int .i64 i) (.int .i64 d) (.slice (some ⟨wr.heap.size, 0, none⟩) 3 3)
          have hblk := block6 (A := Wz) (g := w.heap.size + 1) (.int .i64 15) (.string n) (.string m) (.int .i64 i) (.int .i64 d) (.slice (some ⟨wr.heap.size, 0, none⟩) 3 3)
          refine bodyPost_ret (v := .agg #[.int .i64 15, .string n, .string m, .int .i64 i, .int .i64 d, .slice (some ⟨wr.heap.size, 0, none⟩) 3 3]) (by simp [results, Tryd.results17, go_sem, z0, z1, z2, z3, z4, z5]) rfl ⟨_, rfl, ?_, hbz⟩
          rw [HTE.out]
          have hq : ∀ b, (P b ∨ (W5.heap.size + 1 ≤ b ∧ b < wr.heap.size ∧ b ≠ g9)) → P b ∨ w.heap.size ≤ b ∧ b < Wz.heap.size := fun b hb => by
            rcases hb with h1 | h1
            · exact .inl h1
            · exact .inr ⟨by omega, by omega⟩
          have hq2 : ∀ A : World, A.heap.size = Wz.heap.size → ∀ b, (P b ∨ w.heap.size ≤ b ∧ b < Wz.heap.size) → NewP P w A b := fun A hA b h => by
            rcases h with h | h
            · exact .inl h
            · exact .inr ⟨h.1, by rw [hA]; exact h.2⟩
          have hs2 : ∀ (A : World), (∀ b off, b ≠ w.heap.size + 1 → A.cell? ⟨b, off, none⟩ = Wz.cell? ⟨b, off, none⟩) → StayP (fun b => P b ∨ (W5.heap.size + 1 ≤ b ∧ b < wr.heap.size ∧ b ≠ g9)) wr A := fun A hA b off hb v hv => (hA b off (by
            rcases hb with h1 | h1
            · have := HP.out b h1; omega
            · omega)).trans (HSTZ.out b off hb v hv)
          refine exP_iff.2 ⟨_, rfl, three_subP (pa := p2) (pb := p1) (pc := p0) (ca := c2) (cb := c1) (cc := c0) ?_ ?_ ?_ ?_ ?_⟩
          · exact subP_stay (fun b hb => hq2 _ (by simp [World.setCell]) b (hq b hb)) (hs2 _ hst) HA2.out
          · exact subP_stay (fun b hb => hq2 _ (by simp [World.setCell]) b (hq b hb)) (hs2 _ hst) HA1.out
          · exact subP_stay (fun b hb => hq2 _ (by simp [World.setCell]) b (hq b hb)) (hs2 _ hst) HA0.out
          · exact hq2 _ (by simp [World.setCell]) _ (.inr ⟨by omega, by omega⟩)
          · exact (hblk wr.heap.size (by omega)).trans HROW.out
      · have HTE : Hid (oppE (.mk k n m i d sub) = .mk k n m i d (oppL sub)) := Lib.hid (by rw [oppE, oppS, if_neg (by rw [oppL_length]; exact h15)])
        have hcase : (k == 15) = false ∨ ((k == 15) = true ∧ ((sub.length : Int) == 3) = false) := by
          by_cases hk : k = 15
          · refine .inr ⟨by simp [hk], ?_⟩
            rw [beq_eq_false_iff_ne]; intro h; exact h15 ⟨hk, by omega⟩
          · exact .inl (by rw [beq_eq_false_iff_ne]; exact hk)
        clear h15
        obtain ⟨ys, hyl, h2 | ⟨g9, cap9, cur, rfl, _⟩⟩ := HFILL.out.own
        · obtain ⟨rfl, h0⟩ : v = .slice none 0 0 ∧ sub.length = 0 := by first | exact ⟨h2.1, h2.2⟩ | exact ⟨h2.2, h2.1⟩
          clear h2 hyl
          rcases hcase with h6 | ⟨h6, h7⟩
          · obtain ⟨z0, z1, z2, z3, z4, z5⟩ := cells6 HRS.out
            obtain ⟨f0, f1, f2, f3, f4, f5⟩ := free6 HRS.out
            go_wp2_with fail
            have hbz := below6 HBW.out (g := w.heap.size + 1) (by omega) (.int .i64 k) (.string n) (.string m) (.int .i64 i) (.int .i64 d) (.slice none 0 0)
            have hst := stay6 (A := wr) (g := w.heap.size + 1) (.int .i64 k) (.string n) (.string m) (.int .i64 i) (.int .i64 d) (.slice none 0 0)
            refine bodyPost_ret (v := .agg #[.int .i64 k, .string n, .string m, .int .i64 i, .int .i64 d, .slice none 0 0]) (by simp [results, Tryd.results17, go_sem, z0, z1, z2, z3, z4, z5]) rfl ⟨_, rfl, ?_, hbz⟩
            rw [HTE.out]
            refine exP_iff.2 ⟨_, rfl, ?_⟩
            refine HFILL.out.done HML.out (fun b hb => ?_) (fun b off hb v hv => (hst b off ?_).trans hv)
            · rw [size6]
              rcases hb with h1 | h1
              · exact .inl h1
              · exact .inr ⟨by omega, h1.2⟩
            · rcases hb with h1 | h1
              · have := HP.out b h1; omega
              · omega
          · obtain ⟨z0, z1, z2, z3, z4, z5⟩ := cells6 HRS.out
            obtain ⟨f0, f1, f2, f3, f4, f5⟩ := free6 HRS.out
            go_wp2_with fail
            have hbz := below6 HBW.out (g := w.heap.size + 1) (by omega) (.int .i64 k) (.string n) (.string m) (.int .i64 i) (.int .i64 d) (.slice none 0 0)
            have hst := stay6 (A := wr) (g := w.heap.size + 1) (.int .i64 k) (.string n) (.string m) (.int .i64 i) (.int .i64 d) (.slice none 0 0)
            refine bodyPost_ret (v := .agg #[.int .i64 k, .string n, .string m, .int .i64 i, .int .i64 d, .slice none 0 0]) (by simp [results, Tryd.results17, go_sem, z0, z1, z2, z3, z4, z5]) rfl ⟨_, rfl, ?_, hbz⟩
            rw [HTE.out]
            refine exP_iff.2 ⟨_, rfl, ?_⟩
            refine HFILL.out.done HML.out (fun b hb => ?_) (fun b off hb v hv => (hst b off ?_).trans hv)
            · rw [size6]
              rcases hb with h1 | h1
              · exact .inl h1
              · exact .inr ⟨by omega, h1.2⟩
            · rcases hb with h1 | h1
              · have := HP.out b h1; omega
              · omega
        · clear hyl
          rcases hcase with h6 | ⟨h6, h7⟩
          · obtain ⟨z0, z1, z2, z3, z4, z5⟩ := cells6 HRS.out
            obtain ⟨f0, f1, f2, f3, f4, f5⟩ := free6 HRS.out
            go_wp2_with fail
            have hbz := below6 HBW.out (g := w.heap.size + 1) (by omega) (.int .i64 k) (.string n) (.string m) (.int .i64 i) (.int .i64 d) (.slice (some ⟨g9, 0, none⟩) sub.length cap9)
            have hst := stay6 (A := wr) (g := w.heap.size + 1) (.int .i64 k) (.string n) (.string m) (.int .i64 i) (.int .i64 d) (.slice (some ⟨g9, 0, none⟩) sub.length cap9)
            refine bodyPost_ret (v := .agg #[.int .i64 k, .string n, .string m, .int .i64 i, .int .i64 d, .slice (some ⟨g9, 0, none⟩) sub.length cap9]) (by simp [results, Tryd.results17, go_sem, z0, z1, z2, z3, z4, z5]) rfl ⟨_, rfl, ?_, hbz⟩
            rw [HTE.out]
            refine exP_iff.2 ⟨_, rfl, ?_⟩
            refine HFILL.out.done HML.out (fun b hb => ?_) (fun b off hb v hv => (hst b off ?_).trans hv)
            · rw [size6]
              rcases hb with h1 | h1
              · exact .inl h1
              · exact .inr ⟨by omega, h1.2⟩
            · rcases hb with h1 | h1
              · have := HP.out b h1; omega
              · omega
          · obtain ⟨z0, z1, z2, z3, z4, z5⟩ := cells6 HRS.out
            obtain ⟨f0, f1, f2, f3, f4, f5⟩ := free6 HRS.out
            go_wp2_with fail
            have hbz := below6 HBW.out (g := w.heap.size + 1) (by omega) (.int .i64 k) (.string n) (.string m) (.int .i64 i) (.int .i64 d) (.slice (some ⟨g9, 0, none⟩) sub.length cap9)
            have hst := stay6 (A := wr) (g := w.heap.size + 1) (.int .i64 k) (.string n) (.string m) (.int .i64 i) (.int .i64 d) (.slice (some ⟨g9, 0, none⟩) sub.length cap9)
            refine bodyPost_ret (v := .agg #[.int .i64 k, .string n, .string m, .int .i64 i, .int .i64 d, .slice (some ⟨g9, 0, none⟩) sub.length cap9]) (by simp [results, Tryd.results17, go_sem, z0, z1, z2, z3, z4, z5]) rfl ⟨_, rfl, ?_, hbz⟩
            rw [HTE.out]
            refine exP_iff.2 ⟨_, rfl, ?_⟩
            refine HFILL.out.done HML.out (fun b hb => ?_) (fun b off hb v hv => (hst b off ?_).trans hv)
            · rw [size6]
              rcases hb with h1 | h1
              · exact .inl h1
              · exact .inr ⟨by omega, h1.2⟩
            · rcases hb with h1 | h1
              · have := HP.out b h1; omega
              · omega
theorem opp_any : ∀ (N : Nat) (k : Int) (n m : ByteArray) (i d : Int) (sub : List Ex) (p : Option Addr) (c : Nat) (P : Nat → Prop) (w : World) (_ : ∀ b, P b → b < w.heap.size) (_ : nodesL sub < N) (_ : nodesL sub ≤ 1048576) (_ : SubP w P sub (.slice p sub.length c)), Calls Tryd.prog 17 #[.agg #[.int .i64 k, .string n, .string m, .int .i64 i, .int .i64 d, .slice p sub.length c]] w (RetEx P w (oppE (.mk k n m i d sub)))
  | 0, _, _, _, _, _, _, _, _, _, _, _, h, _, _ => absurd h (Nat.not_lt_zero _)
  | N + 1, k, n, m, i, d, sub, p, c, P, w, h1, h2, h3, h4 => opp_step N (opp_any N) k n m i d sub p c P w h1 h2 h3 h4
end Go.Proofs.YtiagjpiclnmpkaaDoor
