/- Texts of this proof, part 10: what the proof uses of them. -/
import Derived.Test.YtnnolijagpakiaaGreatDoorVai
import Derived.Test.YtnnolijagpakiaaGreatDoorVah
import Derived.Test.YtnnolijagpakiaaGreatDoorProg
import Derived.Test.YtnnolijagpakiaaGreatDoorVag
import Derived.Outline
import Derived.StillTailTactics
import Derived.Deep.RegionHeld3
import Derived.Lib.SlicesS
namespace Go.Proofs.YtnnolijagpakiaaGreatDoor
section
section
open Go.RowKit Go.Shelf
attribute [local go_sem] Oper.semAt_some
theorem infoExprs : (Tryz.prog.info? 34).map (fun i => (i.zero, i.size, i.bytes)) = some (some (.slice none 0 0), 1, 24) := by kernel_rfl
set_option maxRecDepth 100000 in
set_option maxHeartbeats 4000000 in
theorem nodes1_in (n l be lo hi : Nat) (hn1 : 1 ≤ n) (k : Int) (nm mr : ByteArray) (it d : Int) (sub : List Ex) (p : Option Addr) (cap : Nat) (W0 W : World)
  (hs : SubAt W0 lo sub (.slice p sub.length cap)) (hlow : SameLow lo W0 W) (hlh : lo ≤ hi) (hhb : hi ≤ be) (hbe : W.heap[be]? = some (.cells #[.int .i64 k, .string nm, .string mr, .int .i64 it, .int .i64 d, .slice p sub.length cap] 36 (0, 0))) (hsz : nodesL sub ≤ 1048576)
  (J Jx : List (ItN) → World → Prop) (hJ : ∀ pre A B, J pre A → ItStep W.heap.size A B → J pre B)
  (hY : ∀ pre x A, J pre A → ExAt W0 lo x.2.1 (valN x) → YieldAt Fence.wide (n - 1) Tryz.prog l #[.int .i64 x.1, valN x] A fun e B =>
   (e = .returned (.bool true) ∧ J (pre ++ [x]) B ∧ KeepOut lo hi A B) ∨ (e = .returned (.bool false) ∧ Jx (pre ++ [x]) B)) (h0 : J [] W) :
  CallsIn Fence.wide n Tryz.prog 142 #[.func (.yield l) #[] #[], .pointer (some ⟨be, 0, none⟩)] W fun e B => (∃ v, e = .returned v) ∧
   ((∃ xs, NodesAll (.mk k nm mr it d sub) xs ∧ J xs B) ∨ (∃ pre, NodesPre (.mk k nm mr it d sub) pre ∧ Jx pre B)) := by
 obtain ⟨i0, hi0, hz0, hz1, hz2⟩ := info_parts infoExprs
 have hbl := (Array.getElem?_eq_some_iff.1 hbe).1
 have c0 : W.cell? ⟨be, 0, none⟩ = some (.int .i64 k) := by simp [World.cell?, hbe]
 have c1 : W.cell? ⟨be, 1, none⟩ = some (.string nm) := by simp [World.cell?, hbe]
 have c2 : W.cell? ⟨be, 2, none⟩ = some (.string mr) := by simp [World.cell?, hbe]
 have c3 : W.cell? ⟨be, 3, none⟩ = some (.int .i64 it) := by simp [World.cell?, hbe]
 have c4 : W.cell? ⟨be, 4, none⟩ = some (.int .i64 d) := by simp [World.cell?, hbe]
 have c5 : W.cell? ⟨be, 5, none⟩ = some (.slice p sub.length cap) := by simp [World.cell?, hbe]
 have HEX : Hid (ExAt W0 lo (.mk k nm mr it d sub) (.agg #[.int .i64 k, .string nm, .string mr, .int .i64 it, .int .i64 d, .slice p sub.length cap])) := Lib.hid (exAt_iff.2 ⟨_, rfl, hs⟩)
 have HBE := Lib.hid hbe
 have HS := Lib.hid hs
 have HLOW := Lib.hid hlow
 clear hbe hs hlow
 obtain ⟨fn, tmps, assign, body, hy, hR⟩ := hY [] (1, .mk k nm mr it d sub, p, cap) W h0 HEX.out
 replace hy : (Instr.yield l #[.int .i64 1, .agg #[.int .i64 k, .string nm, .string mr, .int .i64 it, .int .i64 d, .slice p sub.length cap]]).run Tryz.prog W = .ok (.round l fn tmps assign body) W := hy
 refine callsIn_of_wp Tryz.func142 rfl trivial ?_ rfl
 simp only [Tryz.ntmps142, List.size_toArray, List.length_cons, List.length_nil, Nat.reduceAdd, Nat.reduceSub, Array.replicate_succ, Array.replicate_zero, List.push_toArray, List.append_toArray, List.nil_append, List.cons_append]
 gi_wp2_with fail
 refine hR.mono ?_
 rintro e W3 (⟨rfl, hJ3, hk3⟩ | ⟨rfl, hJx3⟩)
 ·have d5 := keepOut_cell hk3 c5 (.inr hhb)
  have HL3 := Lib.hid (HLOW.out.keep hk3)
  have hz3 := hk3.size
  clear c0 c1 c2 c3 c4 c5 hy hR
  have hzs : W.heap.size ≤ (W3.alloc (Obj.cells #[Value.slice p sub.length cap] 34)).heap.size := by simp; omega
  have HST : Hid (StackAt W.heap.size 34 W0 lo [sub] (.slice (some ⟨W3.heap.size, 0, none⟩) 1 1) (W3.alloc (Obj.cells #[Value.slice p sub.length cap] 34))) := Lib.hid (stack_one HS.out hz3)
  have HI3 : Hid (ItStep W.heap.size W3 (W3.alloc (Obj.cells #[Value.slice p sub.length cap] 34))) := Lib.hid ((ItStep.refl _ _).alloc hz3 _)
  have HJ4 := Lib.hid (hJ _ _ _ hJ3 HI3.out)
  have hlo : lo ≤ W.heap.size := by omega
  have HL4 := Lib.hid (HL3.out.step HI3.out hlo)
  gi_wp2_with fail
  clear d5 HI3 HL3
  generalize (W3.alloc (Obj.cells #[Value.slice p sub.length cap] 34)) = W4 at *
  gi_loopw [3] (fun v wr => ∃ m, NodesRel W.heap.size 34 lo W0 (.mk k nm mr it d sub) J m v wr) (fun v wr => leastOf (fun m => NodesRel W.heap.size 34 lo W0 (.mk k nm mr it d sub) J m v wr))
  case atStart => exact ⟨_, _, _, HST.out, HJ4.out, HL4.out, hzs, by simp, by simp [projN, preE, restL], rfl⟩
  case round =>
   obtain ⟨hrel1, hleast⟩ := leastOf_spec hrel
   obtain ⟨M, hM⟩ : ∃ M, leastOf (fun m => NodesRel W.heap.size 34 lo W0 (.mk k nm mr it d sub) J m u3 wr) = M := ⟨_, rfl⟩
   rw [hM] at hrel1
   obtain ⟨pre, st, hst, hJr, hlr, hbz, hpl, hpre, hm⟩ := hrel1
   have HPRE := Lib.hid hpre
   have HLR := Lib.hid hlr
   have HMM := Lib.hid hm
   have HMQ := Lib.hid hM
   have HLE := Lib.hid hleast
   clear hpre hlr hm hM hleast hrel HST HJ4 HL4
   cases st with
   | nil =>
    obtain ⟨g, cp, _, rfl, _, _, _⟩ := stack_owns hst
    gi_wp2_with fail
    go_end0
    exact ⟨⟨_, rfl⟩, .inl ⟨pre, by unfold NodesAll; rw [← HPRE.out]; simp [restL], hJr⟩⟩
   | cons r st =>
    obtain ⟨g, cp, y, rfl, hg1, hg2, hg3, hg4, hcy, hfy, hy, hst'⟩ := stack_top hst
    have HST := Lib.hid hst
    have HST' := Lib.hid hst'
    clear hst hst'
    have hpl' : st.length + 1 ≤ pre.length := by simpa using hpl
    have hpn : pre.length ≤ 1048577 := by
     have h1 := congrArg List.length HPRE.out
     rw [preE_length, List.length_append, List.length_map] at h1
     simp only [nodesE] at h1; omega
    clear hpl
    obtain ⟨L, hL⟩ : ∃ L, st.length = L := ⟨_, rfl⟩
    rw [hL] at hcy hfy hg3 hpl' HST' HMQ
    unfold maxLen at hg4
    cases r with
    | nil =>
     obtain ⟨py, cy, rfl, _, _⟩ := hy
     rw [hL]
     gi_wp2_with fail
     go_roundw
     case rel => exact ⟨_, pre, st, HST'.out, hJr, HLR.out, hbz, by omega, by rw [← restL_pop]; exact HPRE.out, rfl⟩
     case measure =>
      have hMv := HMM.out
      rw [restL_pop, List.length_cons] at hMv
      rw [HMQ.out]
      exact least_lt (m := 2 * (restL st).length + st.length) ⟨pre, st, HST'.out, hJr, HLR.out, hbz, by omega, by rw [← restL_pop]; exact HPRE.out, rfl⟩ (by omega)
    | cons e es =>
     obtain ⟨b, off, cy, cv, rfl, hcy2, hblo, g0, g1, g2, g3, g4, g5, hsub⟩ := row_head hy HLR.out
     have HSUB := Lib.hid hsub
     obtain ⟨pc, cc, rfl, _, _⟩ := hsub
     have HTL := Lib.hid (subAt_tail hy)
     have hbg : b ≠ g := by omega
     have hgw : g ≠ wr.heap.size := by omega
     have hbw : b ≠ wr.heap.size := by omega
     have hblt : b < wr.heap.size := by omega
     have q0 : (0 : Int) ≤ (L : Int) := by omega
     have q1 : (L : Int) < (cp : Int) := by omega
     have HREL := Lib.hid (restL_push e es st)
     rw [hL] at HREL
     clear hy
     by_cases hc1 : cy = 1
     ·subst hc1
      obtain rfl : es = [] := by cases es with | nil => rfl | cons a r => simp at hcy2
      have HTL' : Hid (SubAt W0 lo [] (.slice (some ⟨b, off, none⟩) 0 0)) := Lib.hid (subAt_none _ _)
      have HA : Hid (ItStep W.heap.size wr ((wr.setCell ⟨g, L, none⟩ (.slice (some ⟨b, off, none⟩) 0 0)).alloc (.cells #[.int .i64 e.kind, .string e.name, .string e.more, .int .i64 e.int, .int .i64 e.den, .slice pc e.sub.length cc] 36))) := Lib.hid (((ItStep.refl _ _).setCell (p := ⟨g, L, none⟩) hg1 _).alloc (by simpa [World.setCell] using hbz) _)
      have HSA : Hid (StackAt W.heap.size 34 W0 lo ([] :: st) (.slice (some ⟨g, 0, none⟩) (L + 1) cp) ((wr.setCell ⟨g, L, none⟩ (.slice (some ⟨b, off, none⟩) 0 0)).alloc (.cells #[.int .i64 e.kind, .string e.name, .string e.more, .int .i64 e.int, .int .i64 e.den, .slice pc e.sub.length cc] 36))) := Lib.hid (by have h1 := stack_alloc (stack_set HST.out HTL'.out) (.cells #[.int .i64 e.kind, .string e.name, .string e.more, .int .i64 e.int, .int .i64 e.den, .slice pc e.sub.length cc] 36); rw [hL] at h1; exact h1)
      have HCA : Hid (((wr.setCell ⟨g, L, none⟩ (.slice (some ⟨b, off, none⟩) 0 0)).alloc (.cells #[.int .i64 e.kind, .string e.name, .string e.more, .int .i64 e.int, .int .i64 e.den, .slice pc e.sub.length cc] 36)).cell? ⟨wr.heap.size, 5, none⟩ = some (.slice pc e.sub.length cc)) := Lib.hid (by simp [go_sem])
      have hsa : wr.heap.size < ((wr.setCell ⟨g, L, none⟩ (.slice (some ⟨b, off, none⟩) 0 0)).alloc (.cells #[.int .i64 e.kind, .string e.name, .string e.more, .int .i64 e.int, .int .i64 e.den, .slice pc e.sub.length cc] 36)).heap.size := by simp [World.setCell]
      have HWA : Hid (∃ A, (wr.setCell ⟨g, L, none⟩ (.slice (some ⟨b, off, none⟩) 0 0)).alloc (.cells #[.int .i64 e.kind, .string e.name, .string e.more, .int .i64 e.int, .int .i64 e.den, .slice pc e.sub.length cc] 36) = A) := Lib.hid ⟨_, rfl⟩
      obtain ⟨fn, tmps, assign, body, hy, hR⟩ := hY pre (L + 2, e, pc, cc) _ (hJ _ _ _ hJr HA.out) (exAt_iff.2 ⟨_, rfl, HSUB.out⟩)
      replace hy : (Instr.yield l #[.int .i64 ((L : Int) + 1 + 1), .agg #[.int .i64 e.kind, .string e.name, .string e.more, .int .i64 e.int, .int .i64 e.den, .slice pc e.sub.length cc]]).run Tryz.prog ((wr.setCell ⟨g, L, none⟩ (.slice (some ⟨b, off, none⟩) 0 0)).alloc (.cells #[.int .i64 e.kind, .string e.name, .string e.more, .int .i64 e.int, .int .i64 e.den, .slice pc e.sub.length cc] 36)) = .ok (.round l fn tmps assign body) ((wr.setCell ⟨g, L, none⟩ (.slice (some ⟨b, off, none⟩) 0 0)).alloc (.cells #[.int .i64 e.kind, .string e.name, .string e.more, .int .i64 e.int, .int .i64 e.den, .slice pc e.sub.length cc] 36)) := hy
      rw [hL]
      gi_wp2_with fail
      generalize (wr.setCell ⟨g, L, none⟩ (.slice (some ⟨b, off, none⟩) 0 0)).alloc (.cells #[.int .i64 e.kind, .string e.name, .string e.more, .int .i64 e.int, .int .i64 e.den, .slice pc e.sub.length cc] 36) = A at *
      clear g0 g1 g2 g3 g4 g5 hcy hfy
      refine hR.mono ?_
      rintro e5 W5 (⟨rfl, hJ5, hk5⟩ | ⟨rfl, hJx5⟩)
      ·have d5 := keepOut_cell hk5 HCA.out (.inr (by show hi ≤ wr.heap.size; omega))
       have HS5 := Lib.hid (stack_keep HSA.out hk5 (by omega))
       have hz5 := hk5.size
       have HL5 := Lib.hid ((HLR.out.step HA.out hlo).keep hk5)
       have hb5 : W.heap.size ≤ W5.heap.size := by omega
       clear hy hR
       obtain ⟨g5, cp5, cur5, ys5, hv5, hgb5, hcur5, _⟩ := id HS5.out
       simp only [Value.slice.injEq, Option.some.injEq, Addr.mk.injEq, and_true] at hv5
       obtain ⟨rfl, -, rfl⟩ := hv5
       obtain ⟨g6, cp6, ys, hv6, hgb6, hown, hrows⟩ := stack_owns HS5.out
       have HROWS := Lib.hid hrows
       have HCUR := Lib.hid hcur5
       rw [List.length_cons, hL] at hown
       clear hv6 hrows hcur5
       gi_wp2_with (first
        | (gi_at_builtin; refine wpListIn_append_own _ rfl _ _ 159 rfl W.heap.size 34 i0 _ 1 24 Tryz.underlying159 hi0 hz0 hz1 hz2 rfl (by decide) _ _ _ rfl (hown.alloc _) ⟨W5.heap.size, 0, none⟩ 1 1 [.slice pc e.sub.length cc] rfl rfl ?c1 ?c2 ?c3 ?c4 ?c5 ?_))
       case c1 => exact cell1_at _ _ _
       case c2 => intro u hu; simp at hu; subst hu; rfl
       case c3 => unfold maxLen; omega
       case c4 => omega
       case c5 => simp; omega
       intro v' w6 hown6 hgrow hne
       have hvn : v' ≠ .slice none 0 0 := hne
       have HST6 := Lib.hid (stack_push hL hown6 hvn HROWS.out HSUB.out)
       have HI6 : Hid (ItStep W.heap.size W5 w6) := Lib.hid (((ItStep.refl _ _).alloc hb5 _).grown hgrow hgb5 (by simp; omega) ((Below.heap_alloc _ _ _ (Array.getElem?_eq_some_iff.1 HCUR.out).1).trans HCUR.out))
       have hz6 := HI6.out.others.size
       have HJ6 := Lib.hid (hJ _ _ _ hJ5 HI6.out)
       have HL6 := Lib.hid (HL5.out.step HI6.out hlo)
       have hM6 : 2 * (restL (e.sub :: [] :: st)).length + (e.sub :: [] :: st).length < M := by
        have h1 := HMM.out
        have h2 := congrArg List.length HREL.out
        simp only [List.length_cons] at h1 h2 ⊢
        omega
       have HR6 : Hid (NodesRel W.heap.size 34 lo W0 (.mk k nm mr it d sub) J (2 * (restL (e.sub :: [] :: st)).length + (e.sub :: [] :: st).length) v' w6) := Lib.hid ⟨_, _, HST6.out, HJ6.out, HL6.out, by omega, by simp; omega, by
        rw [← HPRE.out, HREL.out]; simp [projN], rfl⟩
       clear hown hown6 hgrow hne d5
       gi_wp2_with fail
       go_roundw
       case rel => exact ⟨_, HR6.out⟩
       case measure =>
        rw [HMQ.out]
        exact least_lt HR6.out hM6
      ·gi_wp2_with fail
       refine bodyPost_ret (results_none rfl _ _ _) rfl ?_
       exact ⟨⟨_, rfl⟩, .inr ⟨_, ⟨restL (e.sub :: [] :: st), by rw [← HPRE.out, HREL.out]; simp [projN]⟩, hJx5⟩⟩
     ·have HTL' := Lib.hid HTL.out
      have hc2 : (cy == 1) = false := by simpa using hc1
      have HA : Hid (ItStep W.heap.size wr ((wr.setCell ⟨g, L, none⟩ (.slice (some ⟨b, off + 6, none⟩) es.length (cy - 1))).alloc (.cells #[.int .i64 e.kind, .string e.name, .string e.more, .int .i64 e.int, .int .i64 e.den, .slice pc e.sub.length cc] 36))) := Lib.hid (((ItStep.refl _ _).setCell (p := ⟨g, L, none⟩) hg1 _).alloc (by simpa [World.setCell] using hbz) _)
      have HSA : Hid (StackAt W.heap.size 34 W0 lo (es :: st) (.slice (some ⟨g, 0, none⟩) (L + 1) cp) ((wr.setCell ⟨g, L, none⟩ (.slice (some ⟨b, off + 6, none⟩) es.length (cy - 1))).alloc (.cells #[.int .i64 e.kind, .string e.name, .string e.more, .int .i64 e.int, .int .i64 e.den, .slice pc e.sub.length cc] 36))) := Lib.hid (by have h1 := stack_alloc (stack_set HST.out HTL'.out) (.cells #[.int .i64 e.kind, .string e.name, .string e.more, .int .i64 e.int, .int .i64 e.den, .slice pc e.sub.length cc] 36); rw [hL] at h1; exact h1)
      have HCA : Hid (((wr.setCell ⟨g, L, none⟩ (.slice (some ⟨b, off + 6, none⟩) es.length (cy - 1))).alloc (.cells #[.int .i64 e.kind, .string e.name, .string e.more, .int .i64 e.int, .int .i64 e.den, .slice pc e.sub.length cc] 36)).cell? ⟨wr.heap.size, 5, none⟩ = some (.slice pc e.sub.length cc)) := Lib.hid (by simp [go_sem])
      have hsa : wr.heap.size < ((wr.setCell ⟨g, L, none⟩ (.slice (some ⟨b, off + 6, none⟩) es.length (cy - 1))).alloc (.cells #[.int .i64 e.kind, .string e.name, .string e.more, .int .i64 e.int, .int .i64 e.den, .slice pc e.sub.length cc] 36)).heap.size := by simp [World.setCell]
      have HWA : Hid (∃ A, (wr.setCell ⟨g, L, none⟩ (.slice (some ⟨b, off + 6, none⟩) es.length (cy - 1))).alloc (.cells #[.int .i64 e.kind, .string e.name, .string e.more, .int .i64 e.int, .int .i64 e.den, .slice pc e.sub.length cc] 36) = A) := Lib.hid ⟨_, rfl⟩
      obtain ⟨fn, tmps, assign, body, hy, hR⟩ := hY pre (L + 2, e, pc, cc) _ (hJ _ _ _ hJr HA.out) (exAt_iff.2 ⟨_, rfl, HSUB.out⟩)
      replace hy : (Instr.yield l #[.int .i64 ((L : Int) + 1 + 1), .agg #[.int .i64 e.kind, .string e.name, .string e.more, .int .i64 e.int, .int .i64 e.den, .slice pc e.sub.length cc]]).run Tryz.prog ((wr.setCell ⟨g, L, none⟩ (.slice (some ⟨b, off + 6, none⟩) es.length (cy - 1))).alloc (.cells #[.int .i64 e.kind, .string e.name, .string e.more, .int .i64 e.int, .int .i64 e.den, .slice pc e.sub.length cc] 36)) = .ok (.round l fn tmps assign body) ((wr.setCell ⟨g, L, none⟩ (.slice (some ⟨b, off + 6, none⟩) es.length (cy - 1))).alloc (.cells #[.int .i64 e.kind, .string e.name, .string e.more, .int .i64 e.int, .int .i64 e.den, .slice pc e.sub.length cc] 36)) := hy
      rw [hL]
      gi_wp2_with fail
      generalize (wr.setCell ⟨g, L, none⟩ (.slice (some ⟨b, off + 6, none⟩) es.length (cy - 1))).alloc (.cells #[.int .i64 e.kind, .string e.name, .string e.more, .int .i64 e.int, .int .i64 e.den, .slice pc e.sub.length cc] 36) = A at *
      clear g0 g1 g2 g3 g4 g5 hcy hfy
      refine hR.mono ?_
      rintro e5 W5 (⟨rfl, hJ5, hk5⟩ | ⟨rfl, hJx5⟩)
      ·have d5 := keepOut_cell hk5 HCA.out (.inr (by show hi ≤ wr.heap.size; omega))
       have HS5 := Lib.hid (stack_keep HSA.out hk5 (by omega))
       have hz5 := hk5.size
       have HL5 := Lib.hid ((HLR.out.step HA.out hlo).keep hk5)
       have hb5 : W.heap.size ≤ W5.heap.size := by omega
       clear hy hR
       obtain ⟨g5, cp5, cur5, ys5, hv5, hgb5, hcur5, _⟩ := id HS5.out
       simp only [Value.slice.injEq, Option.some.injEq, Addr.mk.injEq, and_true] at hv5
       obtain ⟨rfl, -, rfl⟩ := hv5
       obtain ⟨g6, cp6, ys, hv6, hgb6, hown, hrows⟩ := stack_owns HS5.out
       have HROWS := Lib.hid hrows
       have HCUR := Lib.hid hcur5
       rw [List.length_cons, hL] at hown
       clear hv6 hrows hcur5
       gi_wp2_with (first
        | (gi_at_builtin; refine wpListIn_append_own _ rfl _ _ 159 rfl W.heap.size 34 i0 _ 1 24 Tryz.underlying159 hi0 hz0 hz1 hz2 rfl (by decide) _ _ _ rfl (hown.alloc _) ⟨W5.heap.size, 0, none⟩ 1 1 [.slice pc e.sub.length cc] rfl rfl ?e1 ?e2 ?e3 ?e4 ?e5 ?_))
       case e1 => exact cell1_at _ _ _
       case e2 => intro u hu; simp at hu; subst hu; rfl
       case e3 => unfold maxLen; omega
       case e4 => omega
       case e5 => simp; omega
       intro v' w6 hown6 hgrow hne
       have hvn : v' ≠ .slice none 0 0 := hne
       have HST6 := Lib.hid (stack_push hL hown6 hvn HROWS.out HSUB.out)
       have HI6 : Hid (ItStep W.heap.size W5 w6) := Lib.hid (((ItStep.refl _ _).alloc hb5 _).grown hgrow hgb5 (by simp; omega) ((Below.heap_alloc _ _ _ (Array.getElem?_eq_some_iff.1 HCUR.out).1).trans HCUR.out))
       have hz6 := HI6.out.others.size
       have HJ6 := Lib.hid (hJ _ _ _ hJ5 HI6.out)
       have HL6 := Lib.hid (HL5.out.step HI6.out hlo)
       have hM6 : 2 * (restL (e.sub :: es :: st)).length + (e.sub :: es :: st).length < M := by
        have h1 := HMM.out
        have h2 := congrArg List.length HREL.out
        simp only [List.length_cons] at h1 h2 ⊢
        omega
       have HR6 : Hid (NodesRel W.heap.size 34 lo W0 (.mk k nm mr it d sub) J (2 * (restL (e.sub :: es :: st)).length + (e.sub :: es :: st).length) v' w6) := Lib.hid ⟨_, _, HST6.out, HJ6.out, HL6.out, by omega, by simp; omega, by
        rw [← HPRE.out, HREL.out]; simp [projN], rfl⟩
       clear hown hown6 hgrow hne d5
       gi_wp2_with fail
       go_roundw
       case rel => exact ⟨_, HR6.out⟩
       case measure =>
        rw [HMQ.out]
        exact least_lt HR6.out hM6
      ·gi_wp2_with fail
       refine bodyPost_ret (results_none rfl _ _ _) rfl ?_
       exact ⟨⟨_, rfl⟩, .inr ⟨_, ⟨restL (e.sub :: es :: st), by rw [← HPRE.out, HREL.out]; simp [projN]⟩, hJx5⟩⟩
 ·gi_wp2_with fail
  refine bodyPost_ret (results_none rfl _ _ _) rfl ?_
  exact ⟨⟨_, rfl⟩, .inr ⟨_, by unfold NodesPre; simp [projN, preE], hJx3⟩⟩
end
end
section
open Go.RowKit
theorem rletter_yes (c : Int) (w : World) (h : isLetter c = true) : Calls Tryz.prog 118 #[.int .u8 c] w fun e w' => e = .returned (.bool true) ∧ w = w' := by
 obtain ⟨h1, h2⟩ : 97 ≤ c ∧ c ≤ 122 := by simpa [isLetter] using h
 clear h
 go_enter Tryz.func118, Tryz.ntmps118
 go_wp2
 go_ret
 exact ⟨rfl, rfl⟩
theorem rletter_no (c : Int) (w : World) (h : isLetter c = false) : Calls Tryz.prog 118 #[.int .u8 c] w fun e w' => e = .returned (.bool false) ∧ w = w' := by
 by_cases h1 : 97 ≤ c
 ·have h2 : ¬ c ≤ 122 := by simp [isLetter] at h; omega
  clear h
  go_enter Tryz.func118, Tryz.ntmps118
  go_wp2
  go_ret
  exact ⟨rfl, rfl⟩
 ·clear h
  go_enter Tryz.func118, Tryz.ntmps118
  go_wp2
  go_ret
  exact ⟨rfl, rfl⟩
theorem rletter_any (c : Int) (w : World) : Calls Tryz.prog 118 #[.int .u8 c] w fun e w' => e = .returned (.bool (isLetter c)) ∧ w = w' := by
 cases h : isLetter c
 ·exact rletter_no c w h
 ·exact rletter_yes c w h
theorem rdigit_yes (c : Int) (w : World) (h : isDigit c = true) : Calls Tryz.prog 121 #[.int .u8 c] w fun e w' => e = .returned (.bool true) ∧ w = w' := by
 obtain ⟨h1, h2⟩ : 48 ≤ c ∧ c ≤ 57 := by simpa [isDigit] using h
 clear h
 go_enter Tryz.func121, Tryz.ntmps121
 go_wp2
 go_ret
 exact ⟨rfl, rfl⟩
theorem rdigit_no (c : Int) (w : World) (h : isDigit c = false) : Calls Tryz.prog 121 #[.int .u8 c] w fun e w' => e = .returned (.bool false) ∧ w = w' := by
 by_cases h1 : 48 ≤ c
 ·have h2 : ¬ c ≤ 57 := by simp [isDigit] at h; omega
  clear h
  go_enter Tryz.func121, Tryz.ntmps121
  go_wp2
  go_ret
  exact ⟨rfl, rfl⟩
 ·clear h
  go_enter Tryz.func121, Tryz.ntmps121
  go_wp2
  go_ret
  exact ⟨rfl, rfl⟩
theorem rdigit_any (c : Int) (w : World) : Calls Tryz.prog 121 #[.int .u8 c] w fun e w' => e = .returned (.bool (isDigit c)) ∧ w = w' := by
 cases h : isDigit c
 ·exact rdigit_no c w h
 ·exact rdigit_yes c w h
theorem rinner_any (c : Int) (w : World) : Calls Tryz.prog 162 #[.int .u8 c] w fun e w' => e = .returned (.bool (isRunning c)) ∧ w = w' := by
 cases h : isLetter c
 ·cases h2 : isDigit c
  ·have e : isRunning c = (c == 47) := by simp [isRunning, h, h2]
   rw [e]; clear e
   go_enter Tryz.func162, Tryz.ntmps162
   go_wp2_with (first | (go_at_call 118; refine (rletter_no _ _ h).mono ?_; rintro e w' ⟨rfl, rfl⟩) | (go_at_call 121; refine (rdigit_no _ _ h2).mono ?_; rintro e w' ⟨rfl, rfl⟩))
   go_ret
   exact ⟨rfl, rfl⟩
  ·have e : isRunning c = true := by simp [isRunning, h2]
   rw [e]; clear e
   go_enter Tryz.func162, Tryz.ntmps162
   go_wp2_with (first | (go_at_call 118; refine (rletter_no _ _ h).mono ?_; rintro e w' ⟨rfl, rfl⟩) | (go_at_call 121; refine (rdigit_yes _ _ h2).mono ?_; rintro e w' ⟨rfl, rfl⟩))
   go_ret
   exact ⟨rfl, rfl⟩
 ·have e : isRunning c = true := by simp [isRunning, h]
  rw [e]; clear e
  go_enter Tryz.func162, Tryz.ntmps162
  go_wp2_with (first | (go_at_call 118; refine (rletter_yes _ _ h).mono ?_; rintro e w' ⟨rfl, rfl⟩))
  go_ret
  exact ⟨rfl, rfl⟩
end
section
open Go.RowKit
def noSlashB (c : UInt8) : Bool := (c.toNat : Int) != 47
theorem noSlash_index : ∀ l : List UInt8, (runL noSlashB l < l.length → Lib.indexByte l 47 = (runL noSlashB l : Nat)) ∧ (runL noSlashB l = l.length → Lib.indexByte l 47 = -1)
 | [] => ⟨fun h => by simp [runL] at h, fun _ => rfl⟩
 | c :: r => by
  obtain ⟨h1, h2⟩ := noSlash_index r
  have hle := runL_le noSlashB r
  by_cases hc : (c == 47) = true
  ·have e : noSlashB c = false := by obtain rfl := eq_of_beq hc; rfl
   have e2 : runL noSlashB (c :: r) = 0 := by simp [runL, e]
   rw [e2]
   refine ⟨fun _ => by rw [Lib.indexByte, if_pos hc]; rfl, fun h => by simp at h⟩
  ·have e : noSlashB c = true := by
    have hne : c ≠ 47 := by simpa using hc
    have : c.toNat ≠ 47 := fun h => hne (UInt8.toNat_inj.1 (by simpa using h))
    simp [noSlashB]; omega
   have e2 : runL noSlashB (c :: r) = runL noSlashB r + 1 := by simp [runL, e]
   rw [e2]
   refine ⟨fun h => ?_, fun h => ?_⟩
   ·have h3 := h1 (by simpa using h)
    rw [Lib.indexByte, if_neg hc, h3, if_neg (by simp <;> omega)] <;> omega
   ·have h3 := h2 (by simpa using h)
    rw [Lib.indexByte, if_neg hc, h3]; rfl
theorem parts_slash {l : List UInt8} (h : runL noSlashB l < l.length) : partsL l = l.take (runL noSlashB l) :: partsL (l.drop (runL noSlashB l + 1)) := (partsL_some ((noSlash_index l).1 h)).2
theorem parts_noSlash {l : List UInt8} (h : ¬ runL noSlashB l < l.length) : partsL l = [l] := partsL_none ((noSlash_index l).2 (by have := runL_le noSlashB l; omega))
theorem hasSlash_run (l : List UInt8) : hasSlash l = decide (runL noSlashB l < l.length) := by
 have hle := runL_le noSlashB l
 unfold hasSlash
 by_cases h : runL noSlashB l < l.length
 ·rw [(noSlash_index l).1 h]; simp [h]
 ·rw [(noSlash_index l).2 (by omega)]; simp [h]
theorem alnum_word {l : List UInt8} {most : Nat} (h0 : 0 < l.length) (h1 : l.length ≤ most) (hh : letterB l[0] = true) (h : runTo alnumB l l.length) : wordL most l = true := by
 refine wordL_true h0 h1 (fun j hj => ?_)
 have := h j hj hj
 unfold alnumB at this
 rcases Nat.eq_zero_or_pos j with rfl | hp
 ·exact .inl hh
 ·cases hl : letterB l[j]
  ·rw [hl] at this; exact .inr ⟨by omega, by simpa using this⟩
  ·exact .inl rfl
theorem rword_nil (s : ByteArray) (m : Nat) (w : World) (h : s.size = 0) :
  Calls Tryz.prog 124 #[.string s, .int .i64 m] w fun e w' => e = .returned (.bool (wordL m s.data.toList)) ∧ w = w' := by
 have h1 : decide ((s.size : Int) < 1) = true := by simp; omega
 have HF := Lib.hid (wordL_nil (most := m) (l := s.data.toList) (by simpa using h))
 clear h
 go_enter Tryz.func124, Tryz.ntmps124
 go_wp2_with fail
 go_ret
 exact ⟨by rw [HF.out]; rfl, rfl⟩
theorem rword_long (s : ByteArray) (m : Nat) (w : World) (h0 : 0 < s.size) (h : m < s.size) :
  Calls Tryz.prog 124 #[.string s, .int .i64 m] w fun e w' => e = .returned (.bool (wordL m s.data.toList)) ∧ w = w' := by
 have h1 : decide ((s.size : Int) < 1) = false := by simp; omega
 have h2 : decide ((m : Int) < (s.size : Int)) = true := by simp; omega
 have HF := Lib.hid (wordL_long (most := m) (l := s.data.toList) (by simpa using h))
 go_enter Tryz.func124, Tryz.ntmps124
 go_wp2_with fail
 go_ret
 exact ⟨by rw [HF.out]; rfl, rfl⟩
theorem rword_head (s : ByteArray) (m : Nat) (w : World) (h0 : 0 < s.size) (h : s.size ≤ m) (hl : isLetter ((s[0]'h0).toNat : Int) = false) :
  Calls Tryz.prog 124 #[.string s, .int .i64 m] w fun e w' => e = .returned (.bool (wordL m s.data.toList)) ∧ w = w' := by
 have h1 : decide ((s.size : Int) < 1) = false := by simp; omega
 have h2 : decide ((m : Int) < (s.size : Int)) = false := by simp; omega
 have h2' : decide (m < s.size) = false := by simp; omega
 have hz : (0 : Int) < s.size := by omega
 have HF := Lib.hid (wordL_false (most := m) (l := s.data.toList) (j := 0) (by simpa using h0) hl (.inl rfl))
 go_enter Tryz.func124, Tryz.ntmps124
 go_wp2_with (first | (go_at_call 118; refine (rletter_no _ _ hl).mono ?_; rintro e w' ⟨rfl, rfl⟩))
 go_ret
 exact ⟨by rw [HF.out]; rfl, rfl⟩
set_option maxHeartbeats 400000 in
theorem rword_body (s : ByteArray) (m : Nat) (w : World) (hm : m ≤ 1000) (h0 : 0 < s.size) (h : s.size ≤ m) (hl : isLetter ((s[0]'h0).toNat : Int) = true) :
  Calls Tryz.prog 124 #[.string s, .int .i64 m] w fun e w' => e = .returned (.bool (wordL m s.data.toList)) ∧ w = w' := by
 have h1 : decide ((s.size : Int) < 1) = false := by simp; omega
 have h2 : decide ((m : Int) < (s.size : Int)) = false := by simp; omega
 have h2' : decide (m < s.size) = false := by simp; omega
 have hz : (0 : Int) < s.size := by omega
 have HL := Lib.hid hl
 go_enter Tryz.func124, Tryz.ntmps124
 go_wp2_with (first | (go_at_call 118; refine (rletter_yes _ _ hl).mono ?_; rintro e w' ⟨rfl, rfl⟩))
 go_loop [5] (fun i => ∃ k : Nat, k ≤ s.size ∧ i = .int .i64 k ∧ runTo alnumB s.data.toList k) (fun i => s.size - (intOf i).toNat)
 case atStart => exact ⟨0, Nat.zero_le _, rfl, runTo_zero _ _⟩
 case round =>
  obtain ⟨k, hk, rfl, hto⟩ := hrel
  clear hl
  by_cases hlt : k < s.size
  ·cases hlk : isLetter ((s[k]'hlt).toNat : Int)
   ·cases hdk : isDigit ((s[k]'hlt).toNat : Int)
    ·have HF := Lib.hid (wordL_false (most := m) (l := s.data.toList) (j := k) (by simpa using hlt) hlk (.inr hdk))
     go_wp2_with (first | (go_at_call 118; refine (rletter_any _ _).mono ?_; rintro e w' ⟨rfl, rfl⟩) | (go_at_call 121; refine (rdigit_any _ _).mono ?_; rintro e w' ⟨rfl, rfl⟩))
     go_ret
     exact ⟨by rw [HF.out]; rfl, rfl⟩
    ·go_wp2_with (first | (go_at_call 118; refine (rletter_any _ _).mono ?_; rintro e w' ⟨rfl, rfl⟩) | (go_at_call 121; refine (rdigit_any _ _).mono ?_; rintro e w' ⟨rfl, rfl⟩))
     go_round
     case rel => exact ⟨k + 1, by omega, by go_num, runTo_step hlt hto (by simp [alnumB, digitB, hdk])⟩
     case measure => simp [intOf]; omega
   ·go_wp2_with (first | (go_at_call 118; refine (rletter_any _ _).mono ?_; rintro e w' ⟨rfl, rfl⟩))
    go_round
    case rel => exact ⟨k + 1, by omega, by go_num, runTo_step hlt hto (by simp [alnumB, letterB, hlk])⟩
    case measure => simp [intOf]; omega
  ·have HF := Lib.hid (alnum_word (most := m) (l := s.data.toList) (by simpa using h0) (by simpa using h) HL.out (fun j hj _ => hto j hj (by simp at hj; omega)))
   go_wp2_with fail
   go_ret
   exact ⟨by rw [HF.out]; rfl, rfl⟩
theorem rword_any (s : ByteArray) (m : Nat) (w : World) (hm : m ≤ 1000) :
  Calls Tryz.prog 124 #[.string s, .int .i64 m] w fun e w' => e = .returned (.bool (wordL m s.data.toList)) ∧ w = w' := by
 rcases Nat.eq_zero_or_pos s.size with h | h
 ·exact rword_nil s m w h
 ·rcases Nat.lt_or_ge m s.size with h' | h'
  ·exact rword_long s m w h h'
  ·cases hl : isLetter ((s[0]'h).toNat : Int)
   ·exact rword_head s m w h h' hl
   ·exact rword_body s m w hm h h' hl
theorem rWord_any (s : ByteArray) (w : World) :
  Calls Tryz.prog 164 #[.string s] w fun e w' => e = .returned (.bool (wordL 24 s.data.toList)) ∧ w = w' := by
 go_enter Tryz.func164, Tryz.ntmps164
 go_wp2_with (first | (go_at_call 124; refine (rword_any _ 24 _ (by omega)).mono ?_; rintro e w' ⟨rfl, rfl⟩))
 go_ret
 exact ⟨rfl, rfl⟩
set_option maxHeartbeats 400000 in
theorem rslash_any (s : ByteArray) (w : World) (hs : s.size ≤ maxLen) :
  Calls Tryz.prog 120 #[.string s] w fun e w' => e = .returned (.int .i64 (runL noSlashB s.data.toList)) ∧ w = w' := by
 unfold maxLen at hs
 go_enter Tryz.func120, Tryz.ntmps120
 go_wp2_with fail
 go_loop [3] (fun i => ∃ k : Nat, k ≤ s.size ∧ i = .int .i64 k ∧ runTo noSlashB s.data.toList k) (fun i => s.size - (intOf i).toNat)
 case atStart => exact ⟨0, Nat.zero_le _, rfl, runTo_zero _ _⟩
 case round =>
  obtain ⟨k, hk, rfl, hto⟩ := hrel
  by_cases hlt : k < s.size
  ·cases hr : (((s[k]'hlt).toNat : Int) != 47)
   ·have Hf := Lib.hid (runL_eq (p := noSlashB) (l := s.data.toList) (k := k) (by simpa using hk) hto (fun _ => hr))
    go_wp2_with fail
    go_ret
    exact ⟨by rw [Hf.out]; rfl, rfl⟩
   ·go_wp2_with fail
    go_round
    case rel => exact ⟨k + 1, by omega, by go_num, runTo_step hlt hto hr⟩
    case measure => simp [intOf]; omega
  ·have Hf := Lib.hid (runL_eq (p := noSlashB) (l := s.data.toList) (k := k) (by simpa using hk) hto (fun h => absurd (by simpa using h) hlt))
   go_wp2_with fail
   go_ret
   exact ⟨by rw [Hf.out]; rfl, rfl⟩
end
section
open Go.RowKit
def strLen (v : Value) : Nat := match v with | .string s => s.size | _ => 0
def LabelRel (s : ByteArray) (v i : Value) : Prop := ∃ t : ByteArray, v = .string t ∧ i = .int .i64 (runL noSlashB t.data.toList) ∧ t.size ≤ 90 ∧ (partsL s.data.toList).all (wordL 20) = (partsL t.data.toList).all (wordL 20)
theorem labelL_short {l : List UInt8} (h : l.length ≤ 90) : labelL l = (partsL l).all (wordL 20) := by simp [labelL, h]
theorem rLabel_long (s : ByteArray) (w : World) (h : 90 < s.size) :
  Calls Tryz.prog 68 #[.string s] w fun e w' => e = .returned (.bool (labelL s.data.toList)) ∧ w = w' := by
 have HF := Lib.hid (labelL_long (l := s.data.toList) (by simpa using h))
 go_enter Tryz.func68, Tryz.ntmps68
 go_wp2_with fail
 go_ret
 exact ⟨by rw [HF.out]; rfl, rfl⟩
set_option maxHeartbeats 400000 in
theorem rLabel_short (s : ByteArray) (w : World) (h : s.size ≤ 90) :
  Calls Tryz.prog 68 #[.string s] w fun e w' => e = .returned (.bool (labelL s.data.toList)) ∧ w = w' := by
 have h90 : decide (90 < (s.size : Int)) = false := by simp; omega
 have HL := Lib.hid (labelL_short (l := s.data.toList) (by simpa using h))
 go_enter Tryz.func68, Tryz.ntmps68
 go_wp2_with (first | (go_at_call 120; refine (rslash_any _ _ (by unfold maxLen; omega)).mono ?_; rintro e w' ⟨rfl, rfl⟩))
 go_loop [0, 3] (fun v i => LabelRel s v i) (fun v _ => strLen v)
 case atStart => exact ⟨s, rfl, rfl, h, rfl⟩
 case round =>
  obtain ⟨t, rfl, rfl, ht, hq⟩ := hrel
  have HQ := Lib.hid hq
  clear hq
  have hrl : runL noSlashB t.data.toList ≤ t.size := by have := runL_le noSlashB t.data.toList; simpa using this
  by_cases hlt : runL noSlashB t.data.toList < t.size
  ·have HP := Lib.hid (parts_slash (l := t.data.toList) (by simpa using hlt))
   cases hw : wordL 20 (t.data.toList.take (runL noSlashB t.data.toList))
   ·have HF : Hid (labelL s.data.toList = false) := Lib.hid (by rw [HL.out, HQ.out, HP.out, List.all_cons, hw]; rfl)
    have Hc : Hid (∀ W, Calls Tryz.prog 124 #[.string (t.extract 0 (runL noSlashB t.data.toList)), .int .i64 20] W fun e w' => e = .returned (.bool false) ∧ W = w') := Lib.hid (fun W => by
     have h1 := rword_any (t.extract 0 (runL noSlashB t.data.toList)) 20 W (by omega)
     rw [extract_list, List.drop_zero, Nat.sub_zero, hw] at h1; exact h1)
    clear hw
    generalize runL noSlashB t.data.toList = n at *
    go_wp2_with (first | (go_at_call 124; refine (Hc.out _).mono ?_; rintro e w' ⟨rfl, rfl⟩))
    go_ret
    exact ⟨by rw [HF.out]; rfl, rfl⟩
   ·have Hc : Hid (∀ W, Calls Tryz.prog 124 #[.string (t.extract 0 (runL noSlashB t.data.toList)), .int .i64 20] W fun e w' => e = .returned (.bool true) ∧ W = w') := Lib.hid (fun W => by
     have h1 := rword_any (t.extract 0 (runL noSlashB t.data.toList)) 20 W (by omega)
     rw [extract_list, List.drop_zero, Nat.sub_zero, hw] at h1; exact h1)
    obtain ⟨t2, HT⟩ : ∃ t2, Hid (t2 = t.extract (runL noSlashB t.data.toList + 1) t.size) := ⟨_, Lib.hid rfl⟩
    have HR : Hid ((partsL s.data.toList).all (wordL 20) = (partsL t2.data.toList).all (wordL 20)) := Lib.hid (by rw [HQ.out, HP.out, List.all_cons, hw, HT.out, extract_end]; rfl)
    have hsz : t2.size < t.size := by rw [HT.out]; simp; omega
    have Hs : Hid (∀ W, Calls Tryz.prog 120 #[.string (t.extract (runL noSlashB t.data.toList + 1) t.size)] W fun e w' => e = .returned (.int .i64 (runL noSlashB t2.data.toList)) ∧ W = w') := Lib.hid (fun W => by
     rw [← HT.out]; exact rslash_any t2 W (by unfold maxLen; omega))
    clear hw
    generalize runL noSlashB t.data.toList = n at *
    go_wp2_with (first | (go_at_call 124; refine (Hc.out _).mono ?_; rintro e w' ⟨rfl, rfl⟩) | (go_at_call 120; refine (Hs.out _).mono ?_; rintro e w' ⟨rfl, rfl⟩))
    go_round
    case rel => exact ⟨t2, by rw [HT.out], rfl, by omega, HR.out⟩
    case measure => simp only [strLen]; have := HT.out; rw [this] at hsz; simpa [strLen] using hsz
  ·have HF : Hid (labelL s.data.toList = wordL 20 t.data.toList) := Lib.hid (by rw [HL.out, HQ.out, parts_noSlash (by simpa using hlt)]; simp)
   go_wp2_with (first | (go_at_call 124; refine (rword_any _ 20 _ (by omega)).mono ?_; rintro e w' ⟨rfl, rfl⟩))
   go_ret
   exact ⟨by rw [HF.out]; rfl, rfl⟩
theorem rLabel_any (s : ByteArray) (w : World) :
  Calls Tryz.prog 68 #[.string s] w fun e w' => e = .returned (.bool (labelL s.data.toList)) ∧ w = w' := by
 rcases Nat.lt_or_ge 90 s.size with h | h
 ·exact rLabel_long s w h
 ·exact rLabel_short s w h
end
section
open Go.RowKit
def CountRel (w1 : World) (f : List Ex → Nat) (sub : List Ex) (n i : Value) (wr : World) : Prop := ∃ j : Nat, j ≤ sub.length ∧ i = .int .i64 j ∧ n = .int .i64 (f (sub.take j) : Nat) ∧ Below w1.heap.size w1 wr
set_option maxHeartbeats 1000000 in
theorem rNodes_any (N : Nat) : ∀ (k : Int) (nm mr : ByteArray) (it d : Int) (sub : List Ex) (sv : Value) (w : World), nodesL sub < N → nodesL sub ≤ 1099511627776 → SubAt w w.heap.size sub sv →
  Calls Tryz.prog 44 #[.agg #[.int .i64 k, .string nm, .string mr, .int .i64 it, .int .i64 d, sv]] w fun e w' => e = .returned (.int .i64 (nodesL sub + 1 : Nat)) ∧ Below w.heap.size w w' := by
 induction N with
 | zero => intro k nm mr it d sub sv w hN; omega
 | succ N ih =>
  intro k nm mr it d sub sv w hN hm hs
  have hl := length_le_nodesL sub
  obtain ⟨p, cap, rfl, hcap, _⟩ := subAt_open hs
  have HS := Lib.hid hs
  have HIH := Lib.hid ih
  clear hs ih
  obtain ⟨w1, hw1, hX⟩ := boxed w #[.int .i64 k, .string nm, .string mr, .int .i64 it, .int .i64 d, .slice p sub.length cap] 36
  have HW := Lib.hid hw1
  have hsz := hX.size
  have HB0 := Lib.hid hX.below
  have hc5 : w1.cell? ⟨w.heap.size, 5, none⟩ = some (.slice p sub.length cap) := hX.cell 5 (by simp)
  have HX := Lib.hid hX
  clear hX hw1
  go_enter Tryz.func44, Tryz.ntmps44
  go_wp2_with fail
  rw [HW.out]
  go_loopw [3, 4] (fun n i wr => CountRel w1 (fun l => nodesL l + 1) sub n i wr) (fun _ i _ => sub.length - (intOf i).toNat)
  case atStart => exact ⟨0, by omega, rfl, rfl, Below.refl _ _⟩
  case round =>
   obtain ⟨j, hj, rfl, rfl, hBr⟩ := hrel
   have hcr := (hBr.cell (p := ⟨w.heap.size, 5, none⟩) hsz).trans hc5
   have hcc := Lib.hid hc5
   have htk := nodesL_take_le sub j
   have hbd := hm
   clear hc5
   by_cases hlt : j < sub.length
   ·have hbw : Below w.heap.size w wr := HB0.out.trans (hBr.mono (by omega))
    obtain ⟨b, off, cv, rfl, g0, g1, g2, g3, g4, g5, g6⟩ := subAt_at HS.out hbw j hlt
    have hn1 := nodesL_get sub j hlt
    have hn2 := nodesE_eq sub[j]
    have hC := Lib.hid (HIH.out sub[j].kind sub[j].name sub[j].more sub[j].int sub[j].den sub[j].sub cv wr (by omega) (by omega) g6)
    have HT := Lib.hid (nodesL_take_succ sub j hlt)
    rw [hn2] at HT
    have hn3 : nodesL sub[j].sub + 1 ≤ nodesL sub := by omega
    clear g6 hn1 hn2
    go_wp2_with (go_at_call 44; refine (hC.out).mono ?_; rintro e w' ⟨rfl, hb1⟩)
    go_roundw
    case rel => exact ⟨j + 1, by omega, by go_num, by simp only []; rw [HT.out]; go_num, hBr.trans (hb1.mono hBr.size)⟩
    case measure => simp [intOf]; omega
   ·obtain rfl : j = sub.length := by omega
    go_wp2_with fail
    go_ret
    exact ⟨by simp [List.take_length], HB0.out.trans (hBr.mono (by omega))⟩
set_option maxHeartbeats 1000000 in
theorem rDepth_any (N : Nat) : ∀ (k : Int) (nm mr : ByteArray) (it d : Int) (sub : List Ex) (sv : Value) (w : World), nodesL sub < N → nodesL sub ≤ 1099511627776 → SubAt w w.heap.size sub sv →
  Calls Tryz.prog 88 #[.agg #[.int .i64 k, .string nm, .string mr, .int .i64 it, .int .i64 d, sv]] w fun e w' => e = .returned (.int .i64 (depthL sub + 1 : Nat)) ∧ Below w.heap.size w w' := by
 induction N with
 | zero => intro k nm mr it d sub sv w hN; omega
 | succ N ih =>
  intro k nm mr it d sub sv w hN hm hs
  have hl := length_le_nodesL sub
  obtain ⟨p, cap, rfl, hcap, _⟩ := subAt_open hs
  have HS := Lib.hid hs
  have HIH := Lib.hid ih
  clear hs ih
  obtain ⟨w1, hw1, hX⟩ := boxed w #[.int .i64 k, .string nm, .string mr, .int .i64 it, .int .i64 d, .slice p sub.length cap] 36
  have HW := Lib.hid hw1
  have hsz := hX.size
  have HB0 := Lib.hid hX.below
  have hc5 : w1.cell? ⟨w.heap.size, 5, none⟩ = some (.slice p sub.length cap) := hX.cell 5 (by simp)
  have HX := Lib.hid hX
  clear hX hw1
  go_enter Tryz.func88, Tryz.ntmps88
  go_wp2_with fail
  rw [HW.out]
  go_loopw [3, 4] (fun n i wr => CountRel w1 (fun l => depthL l) sub n i wr) (fun _ i _ => sub.length - (intOf i).toNat)
  case atStart => exact ⟨0, by omega, rfl, rfl, Below.refl _ _⟩
  case round =>
   obtain ⟨j, hj, rfl, rfl, hBr⟩ := hrel
   have hcr := (hBr.cell (p := ⟨w.heap.size, 5, none⟩) hsz).trans hc5
   have hcc := Lib.hid hc5
   have htk := depthL_take_le sub j
   have hbd := depthL_le sub
   clear hc5
   by_cases hlt : j < sub.length
   ·have hbw : Below w.heap.size w wr := HB0.out.trans (hBr.mono (by omega))
    obtain ⟨b, off, cv, rfl, g0, g1, g2, g3, g4, g5, g6⟩ := subAt_at HS.out hbw j hlt
    have hn1 := nodesL_get sub j hlt
    have hn2 := nodesE_eq sub[j]
    have hC := Lib.hid (HIH.out sub[j].kind sub[j].name sub[j].more sub[j].int sub[j].den sub[j].sub cv wr (by omega) (by omega) g6)
    have HT := Lib.hid (depthL_take_succ sub j hlt)
    rw [depthE_eq] at HT
    have hn3 : depthL sub[j].sub ≤ nodesL sub[j].sub := depthL_le _
    have hn4 : nodesL sub[j].sub + 1 ≤ nodesL sub := by omega
    clear g6 hn1 hn2
    go_wp2_with (go_at_call 88; refine (hC.out).mono ?_; rintro e w' ⟨rfl, hb1⟩)
    go_roundw
    case rel => exact ⟨j + 1, by omega, by go_num, by simp only []; rw [HT.out]; go_num, hBr.trans (hb1.mono hBr.size)⟩
    case measure => simp [intOf]; omega
   ·obtain rfl : j = sub.length := by omega
    go_wp2_with fail
    go_ret
    exact ⟨by simp [List.take_length], HB0.out.trans (hBr.mono (by omega))⟩
end
section
open Go.RowKit
theorem below_drewE {B : Nat} {a w : World} (h : Below B a w) : Below B a w.drew := ⟨h.os, h.tape, h.output, h.size, h.block⟩
theorem ret_boolE {a b : Bool} (h : a = b) : Ending.returned (.bool a) = .returned (.bool b) := by rw [h]
def SameRel (w2 : World) (s t : List Ex) (i : Value) (wr : World) : Prop := ∃ j : Nat, j ≤ s.length ∧ i = .int .i64 j ∧ sameL (s.take j) (t.take j) = true ∧ Below w2.heap.size w2 wr
set_option maxRecDepth 100000 in
set_option maxHeartbeats 2000000 in
theorem rSame_any (N : Nat) : ∀ (k : Int) (nm mr : ByteArray) (it d : Int) (sub : List Ex) (sv : Value) (k' : Int) (nm' mr' : ByteArray) (it' d' : Int) (sub' : List Ex) (sv' : Value) (w : World), nodesL sub < N → nodesL sub ≤ 1099511627776 → SubAt w w.heap.size sub sv → SubAt w w.heap.size sub' sv' →
  Calls Tryz.prog 18 #[.agg #[.int .i64 k, .string nm, .string mr, .int .i64 it, .int .i64 d, sv], .agg #[.int .i64 k', .string nm', .string mr', .int .i64 it', .int .i64 d', sv']] w fun e w' => e = .returned (.bool (sameE (.mk k nm mr it d sub) (.mk k' nm' mr' it' d' sub'))) ∧ Below w.heap.size w w' := by
 induction N with
 | zero => intro k nm mr it d sub sv _ _ _ _ _ _ _ w hN; omega
 | succ N ih =>
  intro k nm mr it d sub sv k' nm' mr' it' d' sub' sv' w hN hm hs hs'
  have hl := length_le_nodesL sub
  obtain ⟨p, cap, rfl, hcap, _⟩ := subAt_open hs
  obtain ⟨p', cap', rfl, hcap', _⟩ := subAt_open hs'
  obtain ⟨w1, hw1, hX⟩ := boxed w #[.int .i64 k, .string nm, .string mr, .int .i64 it, .int .i64 d, .slice p sub.length cap] 36
  obtain ⟨w2, hw2, hX2⟩ := boxed w1 #[.int .i64 k', .string nm', .string mr', .int .i64 it', .int .i64 d', .slice p' sub'.length cap'] 36
  have hz1 : w1.heap.size = w.heap.size + 1 := by rw [← hw1]; simp
  have hsz := hX.size
  have hsz2 := hX2.size
  have hB : Below w.heap.size w w2 := hX.below.trans (hX2.below.mono (by omega))
  have HS := Lib.hid hs
  have HS' := Lib.hid hs'
  have HIH := Lib.hid ih
  have HB := Lib.hid hB
  have HX := Lib.hid hX
  have HX2 := Lib.hid hX2
  have HW : Hid ((w.alloc (.cells #[.int .i64 k, .string nm, .string mr, .int .i64 it, .int .i64 d, .slice p sub.length cap] 36)).alloc (.cells #[.int .i64 k', .string nm', .string mr', .int .i64 it', .int .i64 d', .slice p' sub'.length cap'] 36) = w2) := Lib.hid (by rw [hw1, hw2])
  have HSE : Hid (sameE (.mk k nm mr it d sub) (.mk k' nm' mr' it' d' sub') = (alikeE (.mk k nm mr it d sub) (.mk k' nm' mr' it' d' sub') && sameL sub sub')) := Lib.hid (sameE_alike _ _)
  have HZ1 := Lib.hid hz1
  clear hs hs' ih hB hX hX2 hw1 hw2 hz1
  by_cases hal : alikeE (.mk k nm mr it d sub) (.mk k' nm' mr' it' d' sub') = true
  ·obtain ⟨rfl, rfl, rfl, rfl, rfl, hlen⟩ : k = k' ∧ nm = nm' ∧ mr = mr' ∧ it = it' ∧ d = d' ∧ sub.length = sub'.length := (alikeE_iff _ _).1 hal
   rw [hal] at HSE
   have HLEN := Lib.hid hlen
   have e1 : ((sub.length : Int) != (sub'.length : Int)) = false := by rw [hlen]; simp
   have e2 : (sub.length != sub'.length) = false := by rw [hlen]; simp
   clear hal hlen
   go_enter Tryz.func18, Tryz.ntmps18
   go_wp2_with fail
   rw [HW.out]
   obtain ⟨_, _, _, _, _, ha5⟩ := boxed6 HX.out HX2.out.below
   obtain ⟨_, _, _, _, _, hb5⟩ := boxed6 HX2.out (Below.refl _ _)
   rw [HZ1.out] at hb5
   have HA5 := Lib.hid ha5
   have HB5 := Lib.hid hb5
   clear ha5 hb5
   go_loopw [5] (fun i wr => SameRel w2 sub sub' i wr) (fun i _ => sub.length - (intOf i).toNat)
   case atStart => exact ⟨0, by omega, rfl, by simp [sameL], Below.refl _ _⟩
   case round =>
    obtain ⟨j, hj, rfl, hP, hBr⟩ := hrel
    have HP := Lib.hid hP
    have hcr := (hBr.cell (p := ⟨w.heap.size, 5, none⟩) (by show w.heap.size < _; omega)).trans HA5.out
    have hcr' := (hBr.cell (p := ⟨w.heap.size + 1, 5, none⟩) (by have := HZ1.out; show w.heap.size + 1 < _; omega)).trans HB5.out
    clear hP
    by_cases hlt : j < sub.length
    ·have hlt' : j < sub'.length := by have := HLEN.out; omega
     have hbw : Below w.heap.size w wr := HB.out.trans (hBr.mono (by omega))
     obtain ⟨b, off, cv, rfl, g0, g1, g2, g3, g4, g5, g6⟩ := subAt_at HS.out hbw j hlt
     obtain ⟨b', off', cv', rfl, g0', g1', g2', g3', g4', g5', g6'⟩ := subAt_at HS'.out hbw j hlt'
     have hn1 := nodesL_get sub j hlt
     have hn2 := nodesE_eq sub[j]
     have hD : Below wr.heap.size wr wr.drew := below_drewE (Below.refl _ _)
     have hC := Lib.hid (HIH.out sub[j].kind sub[j].name sub[j].more sub[j].int sub[j].den sub[j].sub cv sub'[j].kind sub'[j].name sub'[j].more sub'[j].int sub'[j].den sub'[j].sub cv' wr.drew (by omega) (by omega) (subAt_below g6 hD hD.size) (subAt_below g6' hD hD.size))
     rw [Ex.eta, Ex.eta] at hC
     have HT := Lib.hid (sameL_take_succ sub sub' j hlt hlt')
     have l0 : (0 : Int) ≤ (j : Int) := by omega
     have l1 : (j : Int) < (sub.length : Int) := by omega
     have l2 : (j : Int) < (sub'.length : Int) := by omega
     clear g6 g6' hn1 hn2 hD
     go_wp2_with fail
     go_still_tail 10, (by kernel_rfl)
     cases hq : sameE sub[j] sub'[j]
     ·rw [hq] at hC
      have HL := Lib.hid (sameL_bad HLEN.out hlt hlt' hq)
      clear hq
      go_wp2_with (go_at_call 18; refine (hC.out).mono ?_; rintro e w' ⟨rfl, hb1⟩)
      go_ret
      exact ⟨by rw [HSE.out, HL.out]; rfl, HB.out.trans (((below_drewE hBr).mono (by omega)).trans (hb1.mono (by have := hBr.size; show _ ≤ wr.heap.size; omega)))⟩
     ·rw [hq] at hC HT
      clear hq
      go_wp2_with (go_at_call 18; refine (hC.out).mono ?_; rintro e w' ⟨rfl, hb1⟩)
      go_roundw
      case rel => exact ⟨j + 1, by omega, by go_num, by rw [HT.out, HP.out]; rfl, (below_drewE hBr).trans (hb1.mono hBr.size)⟩
      case measure => simp [intOf]; omega
    ·obtain rfl : j = sub.length := by omega
     have HP' : Hid (sameL sub sub' = true) := Lib.hid (by have := HP.out; rw [List.take_length, HLEN.out, List.take_length] at this; exact this)
     go_wp2_with fail
     go_ret
     exact ⟨by rw [HSE.out, HP'.out]; rfl, HB.out.trans (hBr.mono (by omega))⟩
  ·have hal' : alikeE (.mk k nm mr it d sub) (.mk k' nm' mr' it' d' sub') = false := by simpa using hal
   rw [hal'] at HSE
   clear hal'
   by_cases h0 : k = k'
   rotate_left
   ·have f0 : (k != k') = true := by simpa using h0
    clear h0 hal
    go_enter Tryz.func18, Tryz.ntmps18
    go_wp2_with fail
    go_ret
    exact ⟨by rw [HSE.out]; rfl, by rw [HW.out]; exact HB.out⟩
   subst h0
   by_cases h1 : nm = nm'
   rotate_left
   ·have f1 : (nm.toList == nm'.toList) = false := (Lib.bytes_beq_false_iff _ _).2 h1
    clear h1 hal
    go_enter Tryz.func18, Tryz.ntmps18
    go_wp2_with fail
    go_ret
    exact ⟨by rw [HSE.out]; rfl, by rw [HW.out]; exact HB.out⟩
   subst h1
   by_cases h2 : mr = mr'
   rotate_left
   ·have f2 : (mr.toList == mr'.toList) = false := (Lib.bytes_beq_false_iff _ _).2 h2
    clear h2 hal
    go_enter Tryz.func18, Tryz.ntmps18
    go_wp2_with fail
    go_ret
    exact ⟨by rw [HSE.out]; rfl, by rw [HW.out]; exact HB.out⟩
   subst h2
   by_cases h3 : it = it'
   rotate_left
   ·have f3 : (it != it') = true := by simpa using h3
    clear h3 hal
    go_enter Tryz.func18, Tryz.ntmps18
    go_wp2_with fail
    go_ret
    exact ⟨by rw [HSE.out]; rfl, by rw [HW.out]; exact HB.out⟩
   subst h3
   by_cases h4 : d = d'
   rotate_left
   ·have f4 : (d != d') = true := by simpa using h4
    clear h4 hal
    go_enter Tryz.func18, Tryz.ntmps18
    go_wp2_with fail
    go_ret
    exact ⟨by rw [HSE.out]; rfl, by rw [HW.out]; exact HB.out⟩
   subst h4
   have hlen : sub.length ≠ sub'.length := fun h => hal ((alikeE_iff _ _).2 ⟨rfl, rfl, rfl, rfl, rfl, h⟩)
   have f6 : ((sub.length : Int) != (sub'.length : Int)) = true := by simp; omega
   have f7 : (sub.length != sub'.length) = true := by simp; omega
   clear hal hlen
   go_enter Tryz.func18, Tryz.ntmps18
   go_wp2_with fail
   go_ret
   exact ⟨by rw [HSE.out]; rfl, by rw [HW.out]; exact HB.out⟩
end
end Go.Proofs.YtnnolijagpakiaaGreatDoor
