/- nodes of syntax: the closure's contract. -/
import Derived.Test.YtnphcjpccieljaaGreatDoorGIt
namespace Go.Proofs.YtnphcjpccieljaaGreatDoor
open Go.RowKit Go.Shelf

attribute [local go_sem] Oper.semAt_some

theorem infoExprs : (Tryz.prog.info? 33).map (fun i => (i.zero, i.size, i.bytes)) = some (some (.slice none 0 0), 1, 24) := by kernel_rfl
set_option maxRecDepth 100000 in
set_option maxHeartbeats 4000000 in
theorem nodes1_in (n l be lo hi : Nat) (hn1 : 1 ≤ n) (k : Int) (nm mr : ByteArray) (it d : Int) (sub : List Ex) (p : Option Addr) (cap : Nat) (W0 W : World)
    (hs : SubAt W0 lo sub (.slice p sub.length cap)) (hlow : SameLow lo W0 W) (hlh : lo ≤ hi) (hhb : hi ≤ be) (hbe : W.heap[be]? = some (.cells #[.int .i64 k, .string nm, .string mr, .int .i64 it, .int .i64 d, .slice p sub.length cap] 35 (0, 0))) (hsz : nodesL sub ≤ 1048576)
    (J Jx : List (ItN) → World → Prop) (hJ : ∀ pre A B, J pre A → ItStep W.heap.size A B → J pre B)
    (hY : ∀ pre x A, J pre A → ExAt W0 lo x.2.1 (valN x) → YieldAt Fence.wide (n - 1) Tryz.prog l #[.int .i64 x.1, valN x] A fun e B =>
      (e = .returned (.bool true) ∧ J (pre ++ [x]) B ∧ KeepOut lo hi A B) ∨ (e = .returned (.bool false) ∧ Jx (pre ++ [x]) B)) (h0 : J [] W) :
    CallsIn Fence.wide n Tryz.prog 80 #[.func (.yield l) #[] #[], .pointer (some ⟨be, 0, none⟩)] W fun e B => (∃ v, e = .returned v) ∧
      ((∃ xs, NodesAll (.mk k nm mr it d sub) xs ∧ J xs B) ∨ (∃ pre, NodesPre (.mk k nm mr it d sub) pre ∧ Jx pre B)) := by
  obtain ⟨i0, hi0, hz0, hz1, hz2⟩ := info_parts infoExprs
  have hbl := (Array.getElem?_eq_some_iff.1 hbe).1
  have c0 : W.cell? ⟨be, 0, none⟩ = some (.int .i64 k) := by simp [World.cell?, hbe]
  have c1 : W.cell? ⟨be, 1, none⟩ = some (.string nm) := by simp [World.cell?, hbe]
  have c2 : W.cell? ⟨be, 2, none⟩ = some (.string mr) := by simp [World.cell?, hbe]
  have c3 : W.cell? ⟨be, 3, none⟩ = some (.int .i64 it) := by simp [World.cell?, hbe]
  have c4 : W.cell? ⟨be, 4, none⟩ = some (.int .i64 d) := by simp [World.cell?, hbe]
  have c5 : W.cell? ⟨be, 5, none⟩ = some (.slice p sub.length cap) := by simp [World.cell?, hbe]
  have HEX : Hid (ExAt W0 lo (.mk k nm mr it d sub) (.agg #[.int .i64 k, .string nm, .string mr, .int .i64 it, .int .i64 d, .slice p sub.length cap])) := Lib.hid (exAt_iff.2 ⟨_, rfl, hs⟩)
  have HBE := Lib.hid hbe
  have HS := Lib.hid hs
  have HLOW := Lib.hid hlow
  clear hbe hs hlow
  obtain ⟨fn, tmps, assign, body, hy, hR⟩ := hY [] (1, .mk k nm mr it d sub, p, cap) W h0 HEX.out
  replace hy : (Instr.yield l #[.int .i64 1, .agg #[.int .i64 k, .string nm, .string mr, .int .i64 it, .int .i64 d, .slice p sub.length cap]]).run Tryz.prog W = .ok (.round l fn tmps assign body) W := hy
  refine callsIn_of_wp Tryz.func80 rfl trivial ?_ rfl
  simp only [Tryz.ntmps80, List.size_toArray, List.length_cons, List.length_nil, Nat.reduceAdd, Nat.reduceSub, Array.replicate_succ, Array.replicate_zero, List.push_toArray, List.append_toArray, List.nil_append, List.cons_append]
  gi_wp2_with fail
  refine hR.mono ?_
  rintro e W3 (⟨rfl, hJ3, hk3⟩ | ⟨rfl, hJx3⟩)
  · have d5 := keepOut_cell hk3 c5 (.inr hhb)
    have HL3 := Lib.hid (HLOW.out.keep hk3)
    have hz3 := hk3.size
    clear c0 c1 c2 c3 c4 c5 hy hR
    have hzs : W.heap.size ≤ (W3.alloc (Obj.cells #[Value.slice p sub.length cap] 33)).heap.size := by simp; omega
    have HST : Hid (StackAt W.heap.size 33 W0 lo [sub] (.slice (some ⟨W3.heap.size, 0, none⟩) 1 1) (W3.alloc (Obj.cells #[Value.slice p sub.length cap] 33))) := Lib.hid (stack_one HS.out hz3)
    have HI3 : Hid (ItStep W.heap.size W3 (W3.alloc (Obj.cells #[Value.slice p sub.length cap] 33))) := Lib.hid ((ItStep.refl _ _).alloc hz3 _)
    have HJ4 := Lib.hid (hJ _ _ _ hJ3 HI3.out)
    have hlo : lo ≤ W.heap.size := by omega
    have HL4 := Lib.hid (HL3.out.step HI3.out hlo)
    gi_wp2_with fail
    clear d5 HI3 HL3
    generalize (W3.alloc (Obj.cells #[Value.slice p sub.length cap] 33)) = W4 at *
    gi_loopw [3] (fun v wr => ∃ m, NodesRel W.heap.size 33 lo W0 (.mk k nm mr it d sub) J m v wr) (fun v wr => leastOf (fun m => NodesRel W.heap.size 33 lo W0 (.mk k nm mr it d sub) J m v wr))
    case atStart => exact ⟨_, _, _, HST.out, HJ4.out, HL4.out, hzs, by simp, by simp [projN, preE, restL], rfl⟩
    case round =>
      obtain ⟨hrel1, hleast⟩ := leastOf_spec hrel
      obtain ⟨M, hM⟩ : ∃ M, leastOf (fun m => NodesRel W.heap.size 33 lo W0 (.mk k nm mr it d sub) J m u3 wr) = M := ⟨_, rfl⟩
      rw [hM] at hrel1
      obtain ⟨pre, st, hst, hJr, hlr, hbz, hpl, hpre, hm⟩ := hrel1
      have HPRE := Lib.hid hpre
      have HLR := Lib.hid hlr
      have HMM := Lib.hid hm
      have HMQ := Lib.hid hM
      have HLE := Lib.hid hleast
      clear hpre hlr hm hM hleast hrel HST HJ4 HL4
      cases st with
      | nil =>
        obtain ⟨g, cp, _, rfl, _, _, _⟩ := stack_owns hst
        gi_wp2_with fail
        go_end0
        exact ⟨⟨_, rfl⟩, .inl ⟨pre, by unfold NodesAll; rw [← HPRE.out]; simp [restL], hJr⟩⟩
      | cons r st =>
        obtain ⟨g, cp, y, rfl, hg1, hg2, hg3, hg4, hcy, hfy, hy, hst'⟩ := stack_top hst
        have HST := Lib.hid hst
        have HST' := Lib.hid hst'
        clear hst hst'
        have hpl' : st.length + 1 ≤ pre.length := by simpa using hpl
        have hpn : pre.length ≤ 1048577 := by
          have h1 := congrArg List.length HPRE.out
          rw [preE_length, List.length_append, List.length_map] at h1
          simp only [nodesE] at h1; omega
        clear hpl
        obtain ⟨L, hL⟩ : ∃ L, st.length = L := ⟨_, rfl⟩
        rw [hL] at hcy hfy hg3 hpl' HST' HMQ
        unfold maxLen at hg4
        cases r with
        | nil =>
          obtain ⟨py, cy, rfl, _, _⟩ := hy
          rw [hL]
          gi_wp2_with fail
          go_roundw
          case rel => exact ⟨_, pre, st, HST'.out, hJr, HLR.out, hbz, by omega, by rw [← restL_pop]; exact HPRE.out, rfl⟩
          case measure =>
            have hMv := HMM.out
            rw [restL_pop, List.length_cons] at hMv
            rw [HMQ.out]
            exact least_lt (m := 2 * (restL st).length + st.length) ⟨pre, st, HST'.out, hJr, HLR.out, hbz, by omega, by rw [← restL_pop]; exact HPRE.out, rfl⟩ (by omega)
        | cons e es =>
          obtain ⟨b, off, cy, cv, rfl, hcy2, hblo, g0, g1, g2, g3, g4, g5, hsub⟩ := row_head hy HLR.out
          have HSUB := Lib.hid hsub
          obtain ⟨pc, cc, rfl, _, _⟩ := hsub
          have HTL := Lib.hid (subAt_tail hy)
          have hbg : b ≠ g := by omega
          have hgw : g ≠ wr.heap.size := by omega
          have hbw : b ≠ wr.heap.size := by omega
          have hblt : b < wr.heap.size := by omega
          have q0 : (0 : Int) ≤ (L : Int) := by omega
          have q1 : (L : Int) < (cp : Int) := by omega
          have HREL := Lib.hid (restL_push e es st)
          rw [hL] at HREL
          clear hy
          by_cases hc1 : cy = 1
          · subst hc1
            obtain rfl : es = [] := by cases es with | nil => rfl | cons a r => simp at hcy2
            have HTL' : Hid (SubAt W0 lo [] (.slice (some ⟨b, off, none⟩) 0 0)) := Lib.hid (subAt_none _ _)
            have HA : Hid (ItStep W.heap.size wr ((wr.setCell ⟨g, L, none⟩ (.slice (some ⟨b, off, none⟩) 0 0)).alloc (.cells #[.int .i64 e.kind, .string e.name, .string e.more, .int .i64 e.int, .int .i64 e.den, .slice pc e.sub.length cc] 35))) := Lib.hid (((ItStep.refl _ _).setCell (p := ⟨g, L, none⟩) hg1 _).alloc (by simpa [World.setCell] using hbz) _)
            have HSA : Hid (StackAt W.heap.size 33 W0 lo ([] :: st) (.slice (some ⟨g, 0, none⟩) (L + 1) cp) ((wr.setCell ⟨g, L, none⟩ (.slice (some ⟨b, off, none⟩) 0 0)).alloc (.cells #[.int .i64 e.kind, .string e.name, .string e.more, .int .i64 e.int, .int .i64 e.den, .slice pc e.sub.length cc] 35))) := Lib.hid (by have h1 := stack_alloc (stack_set HST.out HTL'.out) (.cells #[.int .i64 e.kind, .string e.name, .string e.more, .int .i64 e.int, .int .i64 e.den, .slice pc e.sub.length cc] 35); rw [hL] at h1; exact h1)
            have HCA : Hid (((wr.setCell ⟨g, L, none⟩ (.slice (some ⟨b, off, none⟩) 0 0)).alloc (.cells #[.int .i64 e.kind, .string e.name, .string e.more, .int .i64 e.int, .int .i64 e.den, .slice pc e.sub.length cc] 35)).cell? ⟨wr.heap.size, 5, none⟩ = some (.slice pc e.sub.length cc)) := Lib.hid (by simp [go_sem])
            have hsa : wr.heap.size < ((wr.setCell ⟨g, L, none⟩ (.slice (some ⟨b, off, none⟩) 0 0)).alloc (.cells #[.int .i64 e.kind, .string e.name, .string e.more, .int .i64 e.int, .int .i64 e.den, .slice pc e.sub.length cc] 35)).heap.size := by simp [World.setCell]
            have HWA : Hid (∃ A, (wr.setCell ⟨g, L, none⟩ (.slice (some ⟨b, off, none⟩) 0 0)).alloc (.cells #[.int .i64 e.kind, .string e.name, .string e.more, .int .i64 e.int, .int .i64 e.den, .slice pc e.sub.length cc] 35) = A) := Lib.hid ⟨_, rfl⟩
            obtain ⟨fn, tmps, assign, body, hy, hR⟩ := hY pre (L + 2, e, pc, cc) _ (hJ _ _ _ hJr HA.out) (exAt_iff.2 ⟨_, rfl, HSUB.out⟩)
            replace hy : (Instr.yield l #[.int .i64 ((L : Int) + 1 + 1), .agg #[.int .i64 e.kind, .string e.name, .string e.more, .int .i64 e.int, .int .i64 e.den, .slice pc e.sub.length cc]]).run Tryz.prog ((wr.setCell ⟨g, L, none⟩ (.slice (some ⟨b, off, none⟩) 0 0)).alloc (.cells #[.int .i64 e.kind, .string e.name, .string e.more, .int .i64 e.int, .int .i64 e.den, .slice pc e.sub.length cc] 35)) = .ok (.round l fn tmps assign body) ((wr.setCell ⟨g, L, none⟩ (.slice (some ⟨b, off, none⟩) 0 0)).alloc (.cells #[.int .i64 e.kind, .string e.name, .string e.more, .int .i64 e.int, .int .i64 e.den, .slice pc e.sub.length cc] 35)) := hy
            rw [hL]
            gi_wp2_with fail
            generalize (wr.setCell ⟨g, L, none⟩ (.slice (some ⟨b, off, none⟩) 0 0)).alloc (.cells #[.int .i64 e.kind, .string e.name, .string e.more, .int .i64 e.int, .int .i64 e.den, .slice pc e.sub.length cc] 35) = A at *
            clear g0 g1 g2 g3 g4 g5 hcy hfy
            refine hR.mono ?_
            rintro e5 W5 (⟨rfl, hJ5, hk5⟩ | ⟨rfl, hJx5⟩)
            · have d5 := keepOut_cell hk5 HCA.out (.inr (by show hi ≤ wr.heap.size; omega))
              have HS5 := Lib.hid (stack_keep HSA.out hk5 (by omega))
              have hz5 := hk5.size
              have HL5 := Lib.hid ((HLR.out.step HA.out hlo).keep hk5)
              have hb5 : W.heap.size ≤ W5.heap.size := by omega
              clear hy hR
              obtain ⟨g5, cp5, cur5, ys5, hv5, hgb5, hcur5, _⟩ := id HS5.out
              simp only [Value.slice.injEq, Option.some.injEq, Addr.mk.injEq, and_true] at hv5
              obtain ⟨rfl, -, rfl⟩ := hv5
              obtain ⟨g6, cp6, ys, hv6, hgb6, hown, hrows⟩ := stack_owns HS5.out
              have HROWS := Lib.hid hrows
              have HCUR := Lib.hid hcur5
              rw [List.length_cons, hL] at hown
              clear hv6 hrows hcur5
              gi_wp2_with (first
                | (gi_at_builtin; refine wpListIn_append_own _ rfl _ _ 101 rfl W.heap.size 33 i0 _ 1 24 Tryz.underlying101 hi0 hz0 hz1 hz2 rfl (by decide) _ _ _ rfl (hown.alloc _) ⟨W5.heap.size, 0, none⟩ 1 1 [.slice pc e.sub.length cc] rfl rfl ?c1 ?c2 ?c3 ?c4 ?c5 ?_))
              case c1 => exact cell1_at _ _ _
              case c2 => intro u hu; simp at hu; subst hu; rfl
              case c3 => unfold maxLen; omega
              case c4 => omega
              case c5 => simp; omega
              intro v' w6 hown6 hgrow hne
              have hvn : v' ≠ .slice none 0 0 := hne
              have HST6 := Lib.hid (stack_push hL hown6 hvn HROWS.out HSUB.out)
              have HI6 : Hid (ItStep W.heap.size W5 w6) := Lib.hid (((ItStep.refl _ _).alloc hb5 _).grown hgrow hgb5 (by simp; omega) ((Below.heap_alloc _ _ _ (Array.getElem?_eq_some_iff.1 HCUR.out).1).trans HCUR.out))
              have hz6 := HI6.out.others.size
              have HJ6 := Lib.hid (hJ _ _ _ hJ5 HI6.out)
              have HL6 := Lib.hid (HL5.out.step HI6.out hlo)
              have hM6 : 2 * (restL (e.sub :: [] :: st)).length + (e.sub :: [] :: st).length < M := by
                have h1 := HMM.out
                have h2 := congrArg List.length HREL.out
                simp only [List.length_cons] at h1 h2 ⊢
                omega
              have HR6 : Hid (NodesRel W.heap.size 33 lo W0 (.mk k nm mr it d sub) J (2 * (restL (e.sub :: [] :: st)).length + (e.sub :: [] :: st).length) v' w6) := Lib.hid ⟨_, _, HST6.out, HJ6.out, HL6.out, by omega, by simp; omega, by
                rw [← HPRE.out, HREL.out]; simp [projN], rfl⟩
              clear hown hown6 hgrow hne d5
              gi_wp2_with fail
              go_roundw
              case rel => exact ⟨_, HR6.out⟩
              case measure =>
                rw [HMQ.out]
                exact least_lt HR6.out hM6
            · gi_wp2_with fail
              refine bodyPost_ret (results_none rfl _ _ _) rfl ?_
              exact ⟨⟨_, rfl⟩, .inr ⟨_, ⟨restL (e.sub :: [] :: st), by rw [← HPRE.out, HREL.out]; simp [projN]⟩, hJx5⟩⟩
          · have HTL' := Lib.hid HTL.out
            have hc2 : (cy == 1) = false := by simpa using hc1
            have HA : Hid (ItStep W.heap.size wr ((wr.setCell ⟨g, L, none⟩ (.slice (some ⟨b, off + 6, none⟩) es.length (cy - 1))).alloc (.cells #[.int .i64 e.kind, .string e.name, .string e.more, .int .i64 e.int, .int .i64 e.den, .slice pc e.sub.length cc] 35))) := Lib.hid (((ItStep.refl _ _).setCell (p := ⟨g, L, none⟩) hg1 _).alloc (by simpa [World.setCell] using hbz) _)
            have HSA : Hid (StackAt W.heap.size 33 W0 lo (es :: st) (.slice (some ⟨g, 0, none⟩) (L + 1) cp) ((wr.setCell ⟨g, L, none⟩ (.slice (some ⟨b, off + 6, none⟩) es.length (cy - 1))).alloc (.cells #[.int .i64 e.kind, .string e.name, .string e.more, .int .i64 e.int, .int .i64 e.den, .slice pc e.sub.length cc] 35))) := Lib.hid (by have h1 := stack_alloc (stack_set HST.out HTL'.out) (.cells #[.int .i64 e.kind, .string e.name, .string e.more, .int .i64 e.int, .int .i64 e.den, .slice pc e.sub.length cc] 35); rw [hL] at h1; exact h1)
            have HCA : Hid (((wr.setCell ⟨g, L, none⟩ (.slice (some ⟨b, off + 6, none⟩) es.length (cy - 1))).alloc (.cells #[.int .i64 e.kind, .string e.name, .string e.more, .int .i64 e.int, .int .i64 e.den, .slice pc e.sub.length cc] 35)).cell? ⟨wr.heap.size, 5, none⟩ = some (.slice pc e.sub.length cc)) := Lib.hid (by simp [go_sem])
            have hsa : wr.heap.size < ((wr.setCell ⟨g, L, none⟩ (.slice (some ⟨b, off + 6, none⟩) es.length (cy - 1))).alloc (.cells #[.int .i64 e.kind, .string e.name, .string e.more, .int .i64 e.int, .int .i64 e.den, .slice pc e.sub.length cc] 35)).heap.size := by simp [World.setCell]
            have HWA : Hid (∃ A, (wr.setCell ⟨g, L, none⟩ (.slice (some ⟨b, off + 6, none⟩) es.length (cy - 1))).alloc (.cells #[.int .i64 e.kind, .string e.name, .string e.more, .int .i64 e.int, .int .i64 e.den, .slice pc e.sub.length cc] 35) = A) := Lib.hid ⟨_, rfl⟩
            obtain ⟨fn, tmps, assign, body, hy, hR⟩ := hY pre (L + 2, e, pc, cc) _ (hJ _ _ _ hJr HA.out) (exAt_iff.2 ⟨_, rfl, HSUB.out⟩)
            replace hy : (Instr.yield l #[.int .i64 ((L : Int) + 1 + 1), .agg #[.int .i64 e.kind, .string e.name, .string e.more, .int .i64 e.int, .int .i64 e.den, .slice pc e.sub.length cc]]).run Tryz.prog ((wr.setCell ⟨g, L, none⟩ (.slice (some ⟨b, off + 6, none⟩) es.length (cy - 1))).alloc (.cells #[.int .i64 e.kind, .string e.name, .string e.more, .int .i64 e.int, .int .i64 e.den, .slice pc e.sub.length cc] 35)) = .ok (.round l fn tmps assign body) ((wr.setCell ⟨g, L, none⟩ (.slice (some ⟨b, off + 6, none⟩) es.length (cy - 1))).alloc (.cells #[.int .i64 e.kind, .string e.name, .string e.more, .int .i64 e.int, .int .i64 e.den, .slice pc e.sub.length cc] 35)) := hy
            rw [hL]
            gi_wp2_with fail
            generalize (wr.setCell ⟨g, L, none⟩ (.slice (some ⟨b, off + 6, none⟩) es.length (cy - 1))).alloc (.cells #[.int .i64 e.kind, .string e.name, .string e.more, .int .i64 e.int, .int .i64 e.den, .slice pc e.sub.length cc] 35) = A at *
            clear g0 g1 g2 g3 g4 g5 hcy hfy
            refine hR.mono ?_
            rintro e5 W5 (⟨rfl, hJ5, hk5⟩ | ⟨rfl, hJx5⟩)
            · have d5 := keepOut_cell hk5 HCA.out (.inr (by show hi ≤ wr.heap.size; omega))
              have HS5 := Lib.hid (stack_keep HSA.out hk5 (by omega))
              have hz5 := hk5.size
              have HL5 := Lib.hid ((HLR.out.step HA.out hlo).keep hk5)
              have hb5 : W.heap.size ≤ W5.heap.size := by omega
              clear hy hR
              obtain ⟨g5, cp5, cur5, ys5, hv5, hgb5, hcur5, _⟩ := id HS5.out
              simp only [Value.slice.injEq, Option.some.injEq, Addr.mk.injEq, and_true] at hv5
              obtain ⟨rfl, -, rfl⟩ := hv5
              obtain ⟨g6, cp6, ys, hv6, hgb6, hown, hrows⟩ := stack_owns HS5.out
              have HROWS := Lib.hid hrows
              have HCUR := Lib.hid hcur5
              rw [List.length_cons, hL] at hown
              clear hv6 hrows hcur5
              gi_wp2_with (first
                | (gi_at_builtin; refine wpListIn_append_own _ rfl _ _ 101 rfl W.heap.size 33 i0 _ 1 24 Tryz.underlying101 hi0 hz0 hz1 hz2 rfl (by decide) _ _ _ rfl (hown.alloc _) ⟨W5.heap.size, 0, none⟩ 1 1 [.slice pc e.sub.length cc] rfl rfl ?e1 ?e2 ?e3 ?e4 ?e5 ?_))
              case e1 => exact cell1_at _ _ _
              case e2 => intro u hu; simp at hu; subst hu; rfl
              case e3 => unfold maxLen; omega
              case e4 => omega
              case e5 => simp; omega
              intro v' w6 hown6 hgrow hne
              have hvn : v' ≠ .slice none 0 0 := hne
              have HST6 := Lib.hid (stack_push hL hown6 hvn HROWS.out HSUB.out)
              have HI6 : Hid (ItStep W.heap.size W5 w6) := Lib.hid (((ItStep.refl _ _).alloc hb5 _).grown hgrow hgb5 (by simp; omega) ((Below.heap_alloc _ _ _ (Array.getElem?_eq_some_iff.1 HCUR.out).1).trans HCUR.out))
              have hz6 := HI6.out.others.size
              have HJ6 := Lib.hid (hJ _ _ _ hJ5 HI6.out)
              have HL6 := Lib.hid (HL5.out.step HI6.out hlo)
              have hM6 : 2 * (restL (e.sub :: es :: st)).length + (e.sub :: es :: st).length < M := by
                have h1 := HMM.out
                have h2 := congrArg List.length HREL.out
                simp only [List.length_cons] at h1 h2 ⊢
                omega
              have HR6 : Hid (NodesRel W.heap.size 33 lo W0 (.mk k nm mr it d sub) J (2 * (restL (e.sub :: es :: st)).length + (e.sub :: es :: st).length) v' w6) := Lib.hid ⟨_, _, HST6.out, HJ6.out, HL6.out, by omega, by simp; omega, by
                rw [← HPRE.out, HREL.out]; simp [projN], rfl⟩
              clear hown hown6 hgrow hne d5
              gi_wp2_with fail
              go_roundw
              case rel => exact ⟨_, HR6.out⟩
              case measure =>
                rw [HMQ.out]
                exact least_lt HR6.out hM6
            · gi_wp2_with fail
              refine bodyPost_ret (results_none rfl _ _ _) rfl ?_
              exact ⟨⟨_, rfl⟩, .inr ⟨_, ⟨restL (e.sub :: es :: st), by rw [← HPRE.out, HREL.out]; simp [projN]⟩, hJx5⟩⟩
  · gi_wp2_with fail
    refine bodyPost_ret (results_none rfl _ _ _) rfl ?_
    exact ⟨⟨_, rfl⟩, .inr ⟨_, by unfold NodesPre; simp [projN, preE], hJx3⟩⟩
end Go.Proofs.YtnphcjpccieljaaGreatDoor
