/- conflicts of exprmerge: the closure's contract. -/
import Derived.Test.YtiagjpiclnmpkaaDoorCnA
import Derived.BigGuardIn
namespace Go.Proofs.YtiagjpiclnmpkaaDoor
open Go.RowKit Go.Shelf

attribute [local go_sem] Oper.semAt_some

set_option maxRecDepth 100000 in
set_option maxHeartbeats 4000000 in
theorem conf1_in (n l be lo hi : Nat) (hn1 : 1 ≤ n) (k : Int) (nm mr : ByteArray) (it d : Int) (sub : List Ex) (p : Option Addr) (cap : Nat) (W : World)
    (hs : SubAt W lo sub (.slice p sub.length cap)) (hlh : lo ≤ hi) (hhb : hi ≤ be) (hbe : W.heap[be]? = some (.cells #[.int .i64 k, .string nm, .string mr, .int .i64 it, .int .i64 d, .slice p sub.length cap] 24 (0, 0))) (hm : nodesL sub ≤ 1048576)
    (J Jx : List (ItN) → World → Prop) (hJ : ∀ pre A B, J pre A → ItStep W.heap.size A B → J pre B)
    (hY : ∀ pre x A, J pre A → pre.length ≤ 1048577 → YieldAt Fence.wide (n - 1) Tryd.prog l #[valN x] A fun e B =>
      (e = .returned (.bool true) ∧ J (pre ++ [x]) B ∧ KeepOut lo hi A B) ∨ (e = .returned (.bool false) ∧ Jx (pre ++ [x]) B)) (h0 : J [] W) :
    CallsIn Fence.wide n Tryd.prog 48 #[.func (.yield l) #[] #[], .pointer (some ⟨be, 0, none⟩)] W fun e B => (∃ v, e = .returned v) ∧
      ((∃ xs, ConfAll (.mk k nm mr it d sub) xs ∧ J xs B) ∨ (∃ pre, ConfPre (.mk k nm mr it d sub) pre ∧ Jx pre B)) := by
  obtain ⟨i0, hi0, hz0, hz1, hz2⟩ := info_parts infoExprs
  have hbl := (Array.getElem?_eq_some_iff.1 hbe).1
  have c0 : W.cell? ⟨be, 0, none⟩ = some (.int .i64 k) := by simp [World.cell?, hbe]
  have c1 : W.cell? ⟨be, 1, none⟩ = some (.string nm) := by simp [World.cell?, hbe]
  have c2 : W.cell? ⟨be, 2, none⟩ = some (.string mr) := by simp [World.cell?, hbe]
  have c3 : W.cell? ⟨be, 3, none⟩ = some (.int .i64 it) := by simp [World.cell?, hbe]
  have c4 : W.cell? ⟨be, 4, none⟩ = some (.int .i64 d) := by simp [World.cell?, hbe]
  have c5 : W.cell? ⟨be, 5, none⟩ = some (.slice p sub.length cap) := by simp [World.cell?, hbe]
  have hlo : lo ≤ W.heap.size := by omega
  have HPB : Hid (∀ b, (b < lo ∨ b = W.heap.size) → b < W.heap.size + 1) := Lib.hid (fun b h => by omega)
  have HPO : Hid (∀ b, (b < lo ∨ b = W.heap.size) → b < lo ∨ hi ≤ b) := Lib.hid (fun b h => by omega)
  obtain ⟨W1, hW1⟩ : ∃ W1, W.alloc (.cells #[.int .i64 k, .string nm, .string mr, .int .i64 it, .int .i64 d, .slice p sub.length cap] 24) = W1 := ⟨_, rfl⟩
  have hsz1 : W1.heap.size = W.heap.size + 1 := by rw [← hW1]; simp
  have HONE : Hid (SubP W1 (fun b => b < lo ∨ b = W.heap.size) [.mk k nm mr it d sub] (.slice (some ⟨W.heap.size, 0, none⟩) 1 1)) := Lib.hid (by rw [← hW1]; exact conf_one hs hlo)
  have HI1 : Hid (ItStep W.heap.size W W1) := Lib.hid (by rw [← hW1]; exact (ItStep.refl _ _).alloc (Nat.le_refl _) _)
  have HZ1 := Lib.hid hsz1
  have HW1 := Lib.hid hW1
  clear hbe hs hW1 hsz1
  refine callsIn_of_wp Tryd.func48 rfl trivial ?_ rfl
  simp only [Tryd.ntmps48, List.size_toArray, List.length_cons, List.length_nil, Nat.reduceAdd, Nat.reduceSub, Array.replicate_succ, Array.replicate_zero, List.push_toArray, List.append_toArray, List.nil_append, List.cons_append]
  have HST : Hid (StackP (W.heap.size + 1) 22 W1 (fun b => b < lo ∨ b = W.heap.size) [[.mk k nm mr it d sub]] (.slice (some ⟨W.heap.size + 1, 0, none⟩) 1 1) (W1.alloc (Obj.cells #[Value.slice (some ⟨W.heap.size, 0, none⟩) 1 1] 22))) := Lib.hid (by rw [← HZ1.out]; exact stackP_one HONE.out (by rw [HZ1.out]; omega))
  have HI2 : Hid (ItStep W.heap.size W (W1.alloc (Obj.cells #[Value.slice (some ⟨W.heap.size, 0, none⟩) 1 1] 22))) := Lib.hid (HI1.out.alloc (by rw [HZ1.out]; omega) _)
  have HJ4 := Lib.hid (hJ _ _ _ h0 HI2.out)
  have HL4 : Hid (StayP (fun b => b < lo ∨ b = W.heap.size) W1 (W1.alloc (Obj.cells #[Value.slice (some ⟨W.heap.size, 0, none⟩) 1 1] 22))) := Lib.hid (stay_below ((Below.refl _ _).alloc (Nat.le_refl _) _) (fun b hb => by have := HPB.out b hb; rw [HZ1.out]; exact this))
  have hzs : W.heap.size + 1 ≤ (W1.alloc (Obj.cells #[Value.slice (some ⟨W.heap.size, 0, none⟩) 1 1] 22)).heap.size := by simp [HZ1.out]
  gi_wp2_with fail
  rw [HW1.out]
  generalize (W1.alloc (Obj.cells #[Value.slice (some ⟨W.heap.size, 0, none⟩) 1 1] 22)) = W4 at *
  clear c0 c1 c2 c3 c4 c5 HI2 HI1
  gi_loopw [3] (fun v wr => ∃ m, ConfRel (W.heap.size + 1) 22 (fun b => b < lo ∨ b = W.heap.size) W1 (.mk k nm mr it d sub) J m v wr) (fun v wr => leastOf (fun m => ConfRel (W.heap.size + 1) 22 (fun b => b < lo ∨ b = W.heap.size) W1 (.mk k nm mr it d sub) J m v wr))
  case atStart => exact ⟨_, [], [], _, HST.out, HJ4.out, HL4.out, hzs, by simp, by simp [restL, preL], by simp, rfl⟩
  case round =>
    obtain ⟨hrel1, hleast⟩ := leastOf_spec hrel
    obtain ⟨M, hM⟩ : ∃ M, leastOf (fun m => ConfRel (W.heap.size + 1) 22 (fun b => b < lo ∨ b = W.heap.size) W1 (.mk k nm mr it d sub) J m u3 wr) = M := ⟨_, rfl⟩
    rw [hM] at hrel1
    obtain ⟨vis, pre, st, hst, hJr, hlr, hbz, hpl, hpre, hvp, hm'⟩ := hrel1
    have HPRE := Lib.hid hpre
    have HVP := Lib.hid hvp
    have HLR := Lib.hid hlr
    have HMM := Lib.hid hm'
    have HMQ := Lib.hid hM
    have HLE := Lib.hid hleast
    clear hpre hvp hlr hm' hM hleast hrel HST HJ4 HL4
    cases st with
    | nil =>
      obtain ⟨g, cp, _, rfl, _, _, _⟩ := stackP_owns hst
      gi_wp2_with fail
      go_end0
      exact ⟨⟨_, rfl⟩, .inl ⟨pre, by unfold ConfAll; rw [← HPRE.out, HVP.out]; simp [restL], hJr⟩⟩
    | cons r st =>
      obtain ⟨g, cp, y, rfl, hg1, hg2, hg3, hg4, hcy, hfy, hy, hst'⟩ := stackP_top hst
      have HST := Lib.hid hst
      have HST' := Lib.hid hst'
      clear hst hst'
      have hpl' : st.length ≤ vis.length := by simpa using hpl
      have hpn : vis.length ≤ 1048577 := by
        have h1 := congrArg List.length HPRE.out
        rw [preE_length, List.length_append] at h1
        simp only [nodesE] at h1; omega
      clear hpl
      obtain ⟨L, hL⟩ : ∃ L, st.length = L := ⟨_, rfl⟩
      rw [hL] at hcy hfy hg3 hpl' HST' HMQ
      unfold maxLen at hg4
      cases r with
      | nil =>
        obtain ⟨py, cy, rfl, _, _⟩ := hy
        rw [hL]
        gi_wp2_with fail
        go_roundw
        case rel => exact ⟨_, vis, pre, st, HST'.out, hJr, HLR.out, hbz, by omega, by rw [← restL_pop]; exact HPRE.out, HVP.out, rfl⟩
        case measure =>
          have hMv := HMM.out
          rw [restL_pop, List.length_cons] at hMv
          rw [HMQ.out]
          exact least_lt (m := 2 * (restL st).length + st.length) ⟨vis, pre, st, HST'.out, hJr, HLR.out, hbz, by omega, by rw [← restL_pop]; exact HPRE.out, HVP.out, rfl⟩ (by omega)
      | cons e es =>
        obtain ⟨b, off, cy, cv, rfl, hcy2, hblo, g0, g1, g2, g3, g4, g5, hsub⟩ := rowP_head hy HLR.out
        have hblo' : b < W.heap.size + 1 := HPB.out b hblo
        have HSUB := Lib.hid hsub
        obtain ⟨pc, cc, rfl, _, _⟩ := hsub
        have HTL := Lib.hid (subP_tail hy)
        have hbg : b ≠ g := by omega
        have hgw : g ≠ wr.heap.size := by omega
        have hbw : b ≠ wr.heap.size := by omega
        have hblt : b < wr.heap.size := by omega
        have q0 : (0 : Int) ≤ (L : Int) := by omega
        have q1 : (L : Int) < (cp : Int) := by omega
        have HREL := Lib.hid (restL_push e es st)
        rw [hL] at HREL
        clear hy hblo
        by_cases hc1 : cy = 1
        · subst hc1
          obtain rfl : es = [] := by cases es with | nil => rfl | cons a r => simp at hcy2
          have HTL' : Hid (SubP W1 (fun b => b < lo ∨ b = W.heap.size) [] (.slice (some ⟨b, off, none⟩) 0 0)) := Lib.hid (subP_none _ _)
          have HA : Hid (ItStep (W.heap.size + 1) wr ((wr.setCell ⟨g, L, none⟩ (.slice (some ⟨b, off, none⟩) 0 0)).alloc (.cells #[.int .i64 e.kind, .string e.name, .string e.more, .int .i64 e.int, .int .i64 e.den, .slice pc e.sub.length cc] 24))) := Lib.hid (((ItStep.refl _ _).setCell (p := ⟨g, L, none⟩) hg1 _).alloc (by simpa [World.setCell] using hbz) _)
          have HSA : Hid (StackP (W.heap.size + 1) 22 W1 (fun b => b < lo ∨ b = W.heap.size) ([] :: st) (.slice (some ⟨g, 0, none⟩) (L + 1) cp) ((wr.setCell ⟨g, L, none⟩ (.slice (some ⟨b, off, none⟩) 0 0)).alloc (.cells #[.int .i64 e.kind, .string e.name, .string e.more, .int .i64 e.int, .int .i64 e.den, .slice pc e.sub.length cc] 24))) := Lib.hid (by have h1 := stackP_alloc (stackP_set HST.out HTL'.out) (.cells #[.int .i64 e.kind, .string e.name, .string e.more, .int .i64 e.int, .int .i64 e.den, .slice pc e.sub.length cc] 24); rw [hL] at h1; exact h1)
          have HCA : Hid (((wr.setCell ⟨g, L, none⟩ (.slice (some ⟨b, off, none⟩) 0 0)).alloc (.cells #[.int .i64 e.kind, .string e.name, .string e.more, .int .i64 e.int, .int .i64 e.den, .slice pc e.sub.length cc] 24)).cell? ⟨wr.heap.size, 5, none⟩ = some (.slice pc e.sub.length cc)) := Lib.hid (by simp [go_sem])
          have HCZ := Lib.hid (show ((wr.setCell ⟨g, L, none⟩ (.slice (some ⟨b, off, none⟩) 0 0)).alloc (.cells #[.int .i64 e.kind, .string e.name, .string e.more, .int .i64 e.int, .int .i64 e.den, .slice pc e.sub.length cc] 24)).cell? ⟨wr.heap.size, 0, none⟩ = some (.int .i64 e.kind) ∧ ((wr.setCell ⟨g, L, none⟩ (.slice (some ⟨b, off, none⟩) 0 0)).alloc (.cells #[.int .i64 e.kind, .string e.name, .string e.more, .int .i64 e.int, .int .i64 e.den, .slice pc e.sub.length cc] 24)).cell? ⟨wr.heap.size, 1, none⟩ = some (.string e.name) ∧ ((wr.setCell ⟨g, L, none⟩ (.slice (some ⟨b, off, none⟩) 0 0)).alloc (.cells #[.int .i64 e.kind, .string e.name, .string e.more, .int .i64 e.int, .int .i64 e.den, .slice pc e.sub.length cc] 24)).cell? ⟨wr.heap.size, 2, none⟩ = some (.string e.more) ∧ ((wr.setCell ⟨g, L, none⟩ (.slice (some ⟨b, off, none⟩) 0 0)).alloc (.cells #[.int .i64 e.kind, .string e.name, .string e.more, .int .i64 e.int, .int .i64 e.den, .slice pc e.sub.length cc] 24)).cell? ⟨wr.heap.size, 3, none⟩ = some (.int .i64 e.int) ∧ ((wr.setCell ⟨g, L, none⟩ (.slice (some ⟨b, off, none⟩) 0 0)).alloc (.cells #[.int .i64 e.kind, .string e.name, .string e.more, .int .i64 e.int, .int .i64 e.den, .slice pc e.sub.length cc] 24)).cell? ⟨wr.heap.size, 4, none⟩ = some (.int .i64 e.den) by simp [go_sem])
          have hsa : wr.heap.size < ((wr.setCell ⟨g, L, none⟩ (.slice (some ⟨b, off, none⟩) 0 0)).alloc (.cells #[.int .i64 e.kind, .string e.name, .string e.more, .int .i64 e.int, .int .i64 e.den, .slice pc e.sub.length cc] 24)).heap.size := by simp [World.setCell]
          by_cases hk15 : e.kind = 15
          · have hkt : (e.kind == 15) = true := by simpa using hk15
            have HK := Lib.hid hk15
            clear hk15
            obtain ⟨fn, tmps, assign, body, hy, hR⟩ := hY pre (L + 2, e, pc, cc) _ (hJ _ _ _ hJr (HA.out.mono (by omega))) (by have h1 := congrArg List.length HVP.out; have h2 := List.length_filter_le isSum vis; rw [List.length_map] at h1; omega)
            replace hy : (Instr.yield l #[.agg #[.int .i64 e.kind, .string e.name, .string e.more, .int .i64 e.int, .int .i64 e.den, .slice pc e.sub.length cc]]).run Tryd.prog ((wr.setCell ⟨g, L, none⟩ (.slice (some ⟨b, off, none⟩) 0 0)).alloc (.cells #[.int .i64 e.kind, .string e.name, .string e.more, .int .i64 e.int, .int .i64 e.den, .slice pc e.sub.length cc] 24)) = .ok (.round l fn tmps assign body) ((wr.setCell ⟨g, L, none⟩ (.slice (some ⟨b, off, none⟩) 0 0)).alloc (.cells #[.int .i64 e.kind, .string e.name, .string e.more, .int .i64 e.int, .int .i64 e.den, .slice pc e.sub.length cc] 24)) := hy
            rw [hL]
            gi_wp2_with fail
            generalize (wr.setCell ⟨g, L, none⟩ (.slice (some ⟨b, off, none⟩) 0 0)).alloc (.cells #[.int .i64 e.kind, .string e.name, .string e.more, .int .i64 e.int, .int .i64 e.den, .slice pc e.sub.length cc] 24) = A at *
            clear g0 g1 g2 g3 g4 g5 hcy hfy
            refine hR.mono ?_
            rintro e5 W5 (⟨rfl, hJ5, hk5⟩ | ⟨rfl, hJx5⟩)
            · have d5 := keepOut_cell hk5 HCA.out (.inr (by show hi ≤ wr.heap.size; omega))
              have HS5 := Lib.hid (stackP_keep HSA.out hk5 (by omega))
              have hz5 := hk5.size
              have HL5 := Lib.hid ((HLR.out.step HA.out HPB.out).keep hk5 HPO.out)
              have hb5 : W.heap.size + 1 ≤ W5.heap.size := by omega
              clear hy hR
              obtain ⟨g5, cp5, cur5, ys5, hv5, hgb5, hcur5, _⟩ := id HS5.out
              simp only [Value.slice.injEq, Option.some.injEq, Addr.mk.injEq, and_true] at hv5
              obtain ⟨rfl, -, rfl⟩ := hv5
              obtain ⟨g6, cp6, ys, hv6, hgb6, hown, hrows⟩ := stackP_owns HS5.out
              have HROWS := Lib.hid hrows
              have HCUR := Lib.hid hcur5
              rw [List.length_cons, hL] at hown
              clear hv6 hrows hcur5
              gi_wp2_with (first
                | (gi_at_builtin; refine wpListIn_append_own _ rfl _ _ 62 rfl (W.heap.size + 1) 22 i0 _ 1 24 Tryd.underlying62 hi0 hz0 hz1 hz2 rfl (by decide) _ _ _ rfl (hown.alloc _) ⟨W5.heap.size, 0, none⟩ 1 1 [.slice pc e.sub.length cc] rfl rfl ?c1_1 ?c1_2 ?c1_3 ?c1_4 ?c1_5 ?_))
              case c1_1 => exact cell1_at _ _ _
              case c1_2 => intro u hu; simp at hu; subst hu; rfl
              case c1_3 => unfold maxLen; omega
              case c1_4 => omega
              case c1_5 => simp; omega
              intro v' w6 hown6 hgrow hne
              have hvn : v' ≠ .slice none 0 0 := hne
              have HST6 := Lib.hid (stackP_push hL hown6 hvn HROWS.out HSUB.out)
              have HI6 : Hid (ItStep (W.heap.size + 1) W5 w6) := Lib.hid (((ItStep.refl _ _).alloc hb5 _).grown hgrow hgb5 (by simp; omega) ((Below.heap_alloc _ _ _ (Array.getElem?_eq_some_iff.1 HCUR.out).1).trans HCUR.out))
              have hz6 := HI6.out.others.size
              have HJ6 := Lib.hid (hJ _ _ _ hJ5 (HI6.out.mono (by omega)))
              have HL6 := Lib.hid (HL5.out.step HI6.out HPB.out)
              have hM6 : 2 * (restL (e.sub :: [] :: st)).length + (e.sub :: [] :: st).length < M := by
                have h1 := HMM.out
                have h2 := congrArg List.length HREL.out
                simp only [List.length_cons] at h1 h2 ⊢
                omega
              have HR6 : Hid (ConfRel (W.heap.size + 1) 22 (fun b => b < lo ∨ b = W.heap.size) W1 (.mk k nm mr it d sub) J (2 * (restL (e.sub :: [] :: st)).length + (e.sub :: [] :: st).length) v' w6) := Lib.hid ⟨vis ++ [(L + 2, e)], pre ++ [(L + 2, e, pc, cc)], _, HST6.out, HJ6.out, HL6.out, by omega, by simp; omega, by
                rw [← HPRE.out, HREL.out]; simp, by simp [HVP.out, List.filter_append, isSum, HK.out, projN], rfl⟩
              clear hown hown6 hgrow hne d5
              gi_wp2_with fail
              go_roundw
              case rel => exact ⟨_, HR6.out⟩
              case measure =>
                rw [HMQ.out]
                exact least_lt HR6.out hM6
            · gi_wp2_with fail
              refine bodyPost_ret (results_none rfl _ _ _) rfl ?_
              exact ⟨⟨_, rfl⟩, .inr ⟨_, ⟨(restL (e.sub :: [] :: st)).filter isSum, by rw [← HPRE.out, HREL.out]; simp [HVP.out, List.filter_append, isSum, HK.out, projN]⟩, hJx5⟩⟩
          · have hkt : (e.kind == 15) = false := by simpa using hk15
            have HK := Lib.hid hk15
            clear hk15
            have hJ5 := hJ _ _ _ hJr (HA.out.mono (by omega))
            have HS5 := HSA
            have HL5 := Lib.hid (HLR.out.step HA.out HPB.out)
            have hb5 : W.heap.size + 1 ≤ ((wr.setCell ⟨g, L, none⟩ (.slice (some ⟨b, off, none⟩) 0 0)).alloc (.cells #[.int .i64 e.kind, .string e.name, .string e.more, .int .i64 e.int, .int .i64 e.den, .slice pc e.sub.length cc] 24)).heap.size := by omega
            rw [hL]
            have d5 := HCA.out
            obtain ⟨g5, cp5, cur5, ys5, hv5, hgb5, hcur5, _⟩ := id HS5.out
            simp only [Value.slice.injEq, Option.some.injEq, Addr.mk.injEq, and_true] at hv5
            obtain ⟨rfl, -, rfl⟩ := hv5
            obtain ⟨g6, cp6, ys, hv6, hgb6, hown, hrows⟩ := stackP_owns HS5.out
            have HROWS := Lib.hid hrows
            have HCUR := Lib.hid hcur5
            rw [List.length_cons, hL] at hown
            clear hv6 hrows hcur5
            gi_wp2_with fail
            refine ⟨by simp, ?_⟩
            gi_wp2_with (first
              | (gi_at_builtin; refine wpListIn_append_own _ rfl _ _ 62 rfl (W.heap.size + 1) 22 i0 _ 1 24 Tryd.underlying62 hi0 hz0 hz1 hz2 rfl (by decide) _ _ _ rfl (hown.alloc _) ⟨wr.heap.size + 1, 0, none⟩ 1 1 [.slice pc e.sub.length cc] rfl rfl ?c2_1 ?c2_2 ?c2_3 ?c2_4 ?c2_5 ?_))
            case c2_1 => rw [show wr.heap.size + 1 = ((wr.setCell ⟨g, L, none⟩ (.slice (some ⟨b, off, none⟩) 0 0)).alloc (.cells #[.int .i64 e.kind, .string e.name, .string e.more, .int .i64 e.int, .int .i64 e.den, .slice pc e.sub.length cc] 24)).heap.size by simp [World.setCell]]; exact cell1_at _ _ _
            case c2_2 => intro u hu; simp at hu; subst hu; rfl
            case c2_3 => unfold maxLen; omega
            case c2_4 => omega
            case c2_5 => simp; omega
            intro v' w6 hown6 hgrow hne
            have hvn : v' ≠ .slice none 0 0 := hne
            have HST6 := Lib.hid (stackP_push hL hown6 hvn HROWS.out HSUB.out)
            have HI6 : Hid (ItStep (W.heap.size + 1) ((wr.setCell ⟨g, L, none⟩ (.slice (some ⟨b, off, none⟩) 0 0)).alloc (.cells #[.int .i64 e.kind, .string e.name, .string e.more, .int .i64 e.int, .int .i64 e.den, .slice pc e.sub.length cc] 24)) w6) := Lib.hid (((ItStep.refl _ _).alloc hb5 _).grown hgrow hgb5 (by simp; omega) ((Below.heap_alloc _ _ _ (Array.getElem?_eq_some_iff.1 HCUR.out).1).trans HCUR.out))
            have hz6 := HI6.out.others.size
            have HJ6 := Lib.hid (hJ _ _ _ hJ5 (HI6.out.mono (by omega)))
            have HL6 := Lib.hid (HL5.out.step HI6.out HPB.out)
            have hM6 : 2 * (restL (e.sub :: [] :: st)).length + (e.sub :: [] :: st).length < M := by
              have h1 := HMM.out
              have h2 := congrArg List.length HREL.out
              simp only [List.length_cons] at h1 h2 ⊢
              omega
            have HR6 : Hid (ConfRel (W.heap.size + 1) 22 (fun b => b < lo ∨ b = W.heap.size) W1 (.mk k nm mr it d sub) J (2 * (restL (e.sub :: [] :: st)).length + (e.sub :: [] :: st).length) v' w6) := Lib.hid ⟨vis ++ [(L + 2, e)], pre, _, HST6.out, HJ6.out, HL6.out, by omega, by simp; omega, by
              rw [← HPRE.out, HREL.out]; simp, by simp [HVP.out, List.filter_append, isSum, HK.out], rfl⟩
            clear hown hown6 hgrow hne d5
            gi_wp2_with fail
            go_roundw
            case rel => exact ⟨_, HR6.out⟩
            case measure =>
              rw [HMQ.out]
              exact least_lt HR6.out hM6
        · have HTL' := Lib.hid HTL.out
          have hc2 : (cy == 1) = false := by simpa using hc1
          have HA : Hid (ItStep (W.heap.size + 1) wr ((wr.setCell ⟨g, L, none⟩ (.slice (some ⟨b, off + 6, none⟩) es.length (cy - 1))).alloc (.cells #[.int .i64 e.kind, .string e.name, .string e.more, .int .i64 e.int, .int .i64 e.den, .slice pc e.sub.length cc] 24))) := Lib.hid (((ItStep.refl _ _).setCell (p := ⟨g, L, none⟩) hg1 _).alloc (by simpa [World.setCell] using hbz) _)
          have HSA : Hid (StackP (W.heap.size + 1) 22 W1 (fun b => b < lo ∨ b = W.heap.size) (es :: st) (.slice (some ⟨g, 0, none⟩) (L + 1) cp) ((wr.setCell ⟨g, L, none⟩ (.slice (some ⟨b, off + 6, none⟩) es.length (cy - 1))).alloc (.cells #[.int .i64 e.kind, .string e.name, .string e.more, .int .i64 e.int, .int .i64 e.den, .slice pc e.sub.length cc] 24))) := Lib.hid (by have h1 := stackP_alloc (stackP_set HST.out HTL'.out) (.cells #[.int .i64 e.kind, .string e.name, .string e.more, .int .i64 e.int, .int .i64 e.den, .slice pc e.sub.length cc] 24); rw [hL] at h1; exact h1)
          have HCA : Hid (((wr.setCell ⟨g, L, none⟩ (.slice (some ⟨b, off + 6, none⟩) es.length (cy - 1))).alloc (.cells #[.int .i64 e.kind, .string e.name, .string e.more, .int .i64 e.int, .int .i64 e.den, .slice pc e.sub.length cc] 24)).cell? ⟨wr.heap.size, 5, none⟩ = some (.slice pc e.sub.length cc)) := Lib.hid (by simp [go_sem])
          have HCZ := Lib.hid (show ((wr.setCell ⟨g, L, none⟩ (.slice (some ⟨b, off + 6, none⟩) es.length (cy - 1))).alloc (.cells #[.int .i64 e.kind, .string e.name, .string e.more, .int .i64 e.int, .int .i64 e.den, .slice pc e.sub.length cc] 24)).cell? ⟨wr.heap.size, 0, none⟩ = some (.int .i64 e.kind) ∧ ((wr.setCell ⟨g, L, none⟩ (.slice (some ⟨b, off + 6, none⟩) es.length (cy - 1))).alloc (.cells #[.int .i64 e.kind, .string e.name, .string e.more, .int .i64 e.int, .int .i64 e.den, .slice pc e.sub.length cc] 24)).cell? ⟨wr.heap.size, 1, none⟩ = some (.string e.name) ∧ ((wr.setCell ⟨g, L, none⟩ (.slice (some ⟨b, off + 6, none⟩) es.length (cy - 1))).alloc (.cells #[.int .i64 e.kind, .string e.name, .string e.more, .int .i64 e.int, .int .i64 e.den, .slice pc e.sub.length cc] 24)).cell? ⟨wr.heap.size, 2, none⟩ = some (.string e.more) ∧ ((wr.setCell ⟨g, L, none⟩ (.slice (some ⟨b, off + 6, none⟩) es.length (cy - 1))).alloc (.cells #[.int .i64 e.kind, .string e.name, .string e.more, .int .i64 e.int, .int .i64 e.den, .slice pc e.sub.length cc] 24)).cell? ⟨wr.heap.size, 3, none⟩ = some (.int .i64 e.int) ∧ ((wr.setCell ⟨g, L, none⟩ (.slice (some ⟨b, off + 6, none⟩) es.length (cy - 1))).alloc (.cells #[.int .i64 e.kind, .string e.name, .string e.more, .int .i64 e.int, .int .i64 e.den, .slice pc e.sub.length cc] 24)).cell? ⟨wr.heap.size, 4, none⟩ = some (.int .i64 e.den) by simp [go_sem])
          have hsa : wr.heap.size < ((wr.setCell ⟨g, L, none⟩ (.slice (some ⟨b, off + 6, none⟩) es.length (cy - 1))).alloc (.cells #[.int .i64 e.kind, .string e.name, .string e.more, .int .i64 e.int, .int .i64 e.den, .slice pc e.sub.length cc] 24)).heap.size := by simp [World.setCell]
          by_cases hk15 : e.kind = 15
          · have hkt : (e.kind == 15) = true := by simpa using hk15
            have HK := Lib.hid hk15
            clear hk15
            obtain ⟨fn, tmps, assign, body, hy, hR⟩ := hY pre (L + 2, e, pc, cc) _ (hJ _ _ _ hJr (HA.out.mono (by omega))) (by have h1 := congrArg List.length HVP.out; have h2 := List.length_filter_le isSum vis; rw [List.length_map] at h1; omega)
            replace hy : (Instr.yield l #[.agg #[.int .i64 e.kind, .string e.name, .string e.more, .int .i64 e.int, .int .i64 e.den, .slice pc e.sub.length cc]]).run Tryd.prog ((wr.setCell ⟨g, L, none⟩ (.slice (some ⟨b, off + 6, none⟩) es.length (cy - 1))).alloc (.cells #[.int .i64 e.kind, .string e.name, .string e.more, .int .i64 e.int, .int .i64 e.den, .slice pc e.sub.length cc] 24)) = .ok (.round l fn tmps assign body) ((wr.setCell ⟨g, L, none⟩ (.slice (some ⟨b, off + 6, none⟩) es.length (cy - 1))).alloc (.cells #[.int .i64 e.kind, .string e.name, .string e.more, .int .i64 e.int, .int .i64 e.den, .slice pc e.sub.length cc] 24)) := hy
            rw [hL]
            gi_wp2_with fail
            generalize (wr.setCell ⟨g, L, none⟩ (.slice (some ⟨b, off + 6, none⟩) es.length (cy - 1))).alloc (.cells #[.int .i64 e.kind, .string e.name, .string e.more, .int .i64 e.int, .int .i64 e.den, .slice pc e.sub.length cc] 24) = A at *
            clear g0 g1 g2 g3 g4 g5 hcy hfy
            refine hR.mono ?_
            rintro e5 W5 (⟨rfl, hJ5, hk5⟩ | ⟨rfl, hJx5⟩)
            · have d5 := keepOut_cell hk5 HCA.out (.inr (by show hi ≤ wr.heap.size; omega))
              have HS5 := Lib.hid (stackP_keep HSA.out hk5 (by omega))
              have hz5 := hk5.size
              have HL5 := Lib.hid ((HLR.out.step HA.out HPB.out).keep hk5 HPO.out)
              have hb5 : W.heap.size + 1 ≤ W5.heap.size := by omega
              clear hy hR
              obtain ⟨g5, cp5, cur5, ys5, hv5, hgb5, hcur5, _⟩ := id HS5.out
              simp only [Value.slice.injEq, Option.some.injEq, Addr.mk.injEq, and_true] at hv5
              obtain ⟨rfl, -, rfl⟩ := hv5
              obtain ⟨g6, cp6, ys, hv6, hgb6, hown, hrows⟩ := stackP_owns HS5.out
              have HROWS := Lib.hid hrows
              have HCUR := Lib.hid hcur5
              rw [List.length_cons, hL] at hown
              clear hv6 hrows hcur5
              gi_wp2_with (first
                | (gi_at_builtin; refine wpListIn_append_own _ rfl _ _ 62 rfl (W.heap.size + 1) 22 i0 _ 1 24 Tryd.underlying62 hi0 hz0 hz1 hz2 rfl (by decide) _ _ _ rfl (hown.alloc _) ⟨W5.heap.size, 0, none⟩ 1 1 [.slice pc e.sub.length cc] rfl rfl ?c3_1 ?c3_2 ?c3_3 ?c3_4 ?c3_5 ?_))
              case c3_1 => exact cell1_at _ _ _
              case c3_2 => intro u hu; simp at hu; subst hu; rfl
              case c3_3 => unfold maxLen; omega
              case c3_4 => omega
              case c3_5 => simp; omega
              intro v' w6 hown6 hgrow hne
              have hvn : v' ≠ .slice none 0 0 := hne
              have HST6 := Lib.hid (stackP_push hL hown6 hvn HROWS.out HSUB.out)
              have HI6 : Hid (ItStep (W.heap.size + 1) W5 w6) := Lib.hid (((ItStep.refl _ _).alloc hb5 _).grown hgrow hgb5 (by simp; omega) ((Below.heap_alloc _ _ _ (Array.getElem?_eq_some_iff.1 HCUR.out).1).trans HCUR.out))
              have hz6 := HI6.out.others.size
              have HJ6 := Lib.hid (hJ _ _ _ hJ5 (HI6.out.mono (by omega)))
              have HL6 := Lib.hid (HL5.out.step HI6.out HPB.out)
              have hM6 : 2 * (restL (e.sub :: es :: st)).length + (e.sub :: es :: st).length < M := by
                have h1 := HMM.out
                have h2 := congrArg List.length HREL.out
                simp only [List.length_cons] at h1 h2 ⊢
                omega
              have HR6 : Hid (ConfRel (W.heap.size + 1) 22 (fun b => b < lo ∨ b = W.heap.size) W1 (.mk k nm mr it d sub) J (2 * (restL (e.sub :: es :: st)).length + (e.sub :: es :: st).length) v' w6) := Lib.hid ⟨vis ++ [(L + 2, e)], pre ++ [(L + 2, e, pc, cc)], _, HST6.out, HJ6.out, HL6.out, by omega, by simp; omega, by
                rw [← HPRE.out, HREL.out]; simp, by simp [HVP.out, List.filter_append, isSum, HK.out, projN], rfl⟩
              clear hown hown6 hgrow hne d5
              gi_wp2_with fail
              go_roundw
              case rel => exact ⟨_, HR6.out⟩
              case measure =>
                rw [HMQ.out]
                exact least_lt HR6.out hM6
            · gi_wp2_with fail
              refine bodyPost_ret (results_none rfl _ _ _) rfl ?_
              exact ⟨⟨_, rfl⟩, .inr ⟨_, ⟨(restL (e.sub :: es :: st)).filter isSum, by rw [← HPRE.out, HREL.out]; simp [HVP.out, List.filter_append, isSum, HK.out, projN]⟩, hJx5⟩⟩
          · have hkt : (e.kind == 15) = false := by simpa using hk15
            have HK := Lib.hid hk15
            clear hk15
            have hJ5 := hJ _ _ _ hJr (HA.out.mono (by omega))
            have HS5 := HSA
            have HL5 := Lib.hid (HLR.out.step HA.out HPB.out)
            have hb5 : W.heap.size + 1 ≤ ((wr.setCell ⟨g, L, none⟩ (.slice (some ⟨b, off + 6, none⟩) es.length (cy - 1))).alloc (.cells #[.int .i64 e.kind, .string e.name, .string e.more, .int .i64 e.int, .int .i64 e.den, .slice pc e.sub.length cc] 24)).heap.size := by omega
            rw [hL]
            have d5 := HCA.out
            obtain ⟨g5, cp5, cur5, ys5, hv5, hgb5, hcur5, _⟩ := id HS5.out
            simp only [Value.slice.injEq, Option.some.injEq, Addr.mk.injEq, and_true] at hv5
            obtain ⟨rfl, -, rfl⟩ := hv5
            obtain ⟨g6, cp6, ys, hv6, hgb6, hown, hrows⟩ := stackP_owns HS5.out
            have HROWS := Lib.hid hrows
            have HCUR := Lib.hid hcur5
            rw [List.length_cons, hL] at hown
            clear hv6 hrows hcur5
            gi_wp2_with fail
            refine ⟨by simp, ?_⟩
            gi_wp2_with (first
              | (gi_at_builtin; refine wpListIn_append_own _ rfl _ _ 62 rfl (W.heap.size + 1) 22 i0 _ 1 24 Tryd.underlying62 hi0 hz0 hz1 hz2 rfl (by decide) _ _ _ rfl (hown.alloc _) ⟨wr.heap.size + 1, 0, none⟩ 1 1 [.slice pc e.sub.length cc] rfl rfl ?c4_1 ?c4_2 ?c4_3 ?c4_4 ?c4_5 ?_))
            case c4_1 => rw [show wr.heap.size + 1 = ((wr.setCell ⟨g, L, none⟩ (.slice (some ⟨b, off + 6, none⟩) es.length (cy - 1))).alloc (.cells #[.int .i64 e.kind, .string e.name, .string e.more, .int .i64 e.int, .int .i64 e.den, .slice pc e.sub.length cc] 24)).heap.size by simp [World.setCell]]; exact cell1_at _ _ _
            case c4_2 => intro u hu; simp at hu; subst hu; rfl
            case c4_3 => unfold maxLen; omega
            case c4_4 => omega
            case c4_5 => simp; omega
            intro v' w6 hown6 hgrow hne
            have hvn : v' ≠ .slice none 0 0 := hne
            have HST6 := Lib.hid (stackP_push hL hown6 hvn HROWS.out HSUB.out)
            have HI6 : Hid (ItStep (W.heap.size + 1) ((wr.setCell ⟨g, L, none⟩ (.slice (some ⟨b, off + 6, none⟩) es.length (cy - 1))).alloc (.cells #[.int .i64 e.kind, .string e.name, .string e.more, .int .i64 e.int, .int .i64 e.den, .slice pc e.sub.length cc] 24)) w6) := Lib.hid (((ItStep.refl _ _).alloc hb5 _).grown hgrow hgb5 (by simp; omega) ((Below.heap_alloc _ _ _ (Array.getElem?_eq_some_iff.1 HCUR.out).1).trans HCUR.out))
            have hz6 := HI6.out.others.size
            have HJ6 := Lib.hid (hJ _ _ _ hJ5 (HI6.out.mono (by omega)))
            have HL6 := Lib.hid (HL5.out.step HI6.out HPB.out)
            have hM6 : 2 * (restL (e.sub :: es :: st)).length + (e.sub :: es :: st).length < M := by
              have h1 := HMM.out
              have h2 := congrArg List.length HREL.out
              simp only [List.length_cons] at h1 h2 ⊢
              omega
            have HR6 : Hid (ConfRel (W.heap.size + 1) 22 (fun b => b < lo ∨ b = W.heap.size) W1 (.mk k nm mr it d sub) J (2 * (restL (e.sub :: es :: st)).length + (e.sub :: es :: st).length) v' w6) := Lib.hid ⟨vis ++ [(L + 2, e)], pre, _, HST6.out, HJ6.out, HL6.out, by omega, by simp; omega, by
              rw [← HPRE.out, HREL.out]; simp, by simp [HVP.out, List.filter_append, isSum, HK.out], rfl⟩
            clear hown hown6 hgrow hne d5
            gi_wp2_with fail
            go_roundw
            case rel => exact ⟨_, HR6.out⟩
            case measure =>
              rw [HMQ.out]
              exact least_lt HR6.out hM6
end Go.Proofs.YtiagjpiclnmpkaaDoor
