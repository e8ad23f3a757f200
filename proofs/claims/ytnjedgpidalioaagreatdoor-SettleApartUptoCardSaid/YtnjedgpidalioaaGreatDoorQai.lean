/- Texts of this proof, part 9: what the proof uses of them. -/
import Derived.Test.YtnjedgpidalioaaGreatDoorQah
import Derived.Test.YtnjedgpidalioaaGreatDoorQag
import Derived.Test.YtnjedgpidalioaaGreatDoorProg
import Derived.Outline
import Derived.StillTailTactics
import Derived.Deep.RegionHeld3
import Derived.Lib.SlicesS
namespace Go.Proofs.YtnjedgpidalioaaGreatDoor
section
section
open Go.RowKit Go.Shelf
attribute [local go_sem] Oper.semAt_some
theorem infoExprs : (Tryz.prog.info? 96).map (fun i => (i.zero, i.size, i.bytes)) = some (some (.slice none 0 0), 1, 24) := by kernel_rfl
set_option maxRecDepth 100000 in
set_option maxHeartbeats 4000000 in
theorem nodes1_in (n l be lo hi : Nat) (hn1 : 1 ≤ n) (k : Int) (nm mr : ByteArray) (it d : Int) (sub : List Ex) (p : Option Addr) (cap : Nat) (W0 W : World)
  (hs : SubAt W0 lo sub (.slice p sub.length cap)) (hlow : SameLow lo W0 W) (hlh : lo ≤ hi) (hhb : hi ≤ be) (hbe : W.heap[be]? = some (.cells #[.int .i64 k, .string nm, .string mr, .int .i64 it, .int .i64 d, .slice p sub.length cap] 98 (0, 0))) (hsz : nodesL sub ≤ 1048576)
  (J Jx : List (ItN) → World → Prop) (hJ : ∀ pre A B, J pre A → ItStep W.heap.size A B → J pre B)
  (hY : ∀ pre x A, J pre A → ExAt W0 lo x.2.1 (valN x) → YieldAt Fence.wide (n - 1) Tryz.prog l #[.int .i64 x.1, valN x] A fun e B =>
   (e = .returned (.bool true) ∧ J (pre ++ [x]) B ∧ KeepOut lo hi A B) ∨ (e = .returned (.bool false) ∧ Jx (pre ++ [x]) B)) (h0 : J [] W) :
  CallsIn Fence.wide n Tryz.prog 166 #[.func (.yield l) #[] #[], .pointer (some ⟨be, 0, none⟩)] W fun e B => (∃ v, e = .returned v) ∧
   ((∃ xs, NodesAll (.mk k nm mr it d sub) xs ∧ J xs B) ∨ (∃ pre, NodesPre (.mk k nm mr it d sub) pre ∧ Jx pre B)) := by
 obtain ⟨i0, hi0, hz0, hz1, hz2⟩ := info_parts infoExprs
 have hbl := (Array.getElem?_eq_some_iff.1 hbe).1
 have c0 : W.cell? ⟨be, 0, none⟩ = some (.int .i64 k) := by simp [World.cell?, hbe]
 have c1 : W.cell? ⟨be, 1, none⟩ = some (.string nm) := by simp [World.cell?, hbe]
 have c2 : W.cell? ⟨be, 2, none⟩ = some (.string mr) := by simp [World.cell?, hbe]
 have c3 : W.cell? ⟨be, 3, none⟩ = some (.int .i64 it) := by simp [World.cell?, hbe]
 have c4 : W.cell? ⟨be, 4, none⟩ = some (.int .i64 d) := by simp [World.cell?, hbe]
 have c5 : W.cell? ⟨be, 5, none⟩ = some (.slice p sub.length cap) := by simp [World.cell?, hbe]
 have HEX : Hid (ExAt W0 lo (.mk k nm mr it d sub) (.agg #[.int .i64 k, .string nm, .string mr, .int .i64 it, .int .i64 d, .slice p sub.length cap])) := Lib.hid (exAt_iff.2 ⟨_, rfl, hs⟩)
 have HBE := Lib.hid hbe
 have HS := Lib.hid hs
 have HLOW := Lib.hid hlow
 clear hbe hs hlow
 obtain ⟨fn, tmps, assign, body, hy, hR⟩ := hY [] (1, .mk k nm mr it d sub, p, cap) W h0 HEX.out
 replace hy : (Instr.yield l #[.int .i64 1, .agg #[.int .i64 k, .string nm, .string mr, .int .i64 it, .int .i64 d, .slice p sub.length cap]]).run Tryz.prog W = .ok (.round l fn tmps assign body) W := hy
 refine callsIn_of_wp Tryz.func166 rfl trivial ?_ rfl
 simp only [Tryz.ntmps166, List.size_toArray, List.length_cons, List.length_nil, Nat.reduceAdd, Nat.reduceSub, Array.replicate_succ, Array.replicate_zero, List.push_toArray, List.append_toArray, List.nil_append, List.cons_append]
 gi_wp2_with fail
 refine hR.mono ?_
 rintro e W3 (⟨rfl, hJ3, hk3⟩ | ⟨rfl, hJx3⟩)
 ·have d5 := keepOut_cell hk3 c5 (.inr hhb)
  have HL3 := Lib.hid (HLOW.out.keep hk3)
  have hz3 := hk3.size
  clear c0 c1 c2 c3 c4 c5 hy hR
  have hzs : W.heap.size ≤ (W3.alloc (Obj.cells #[Value.slice p sub.length cap] 96)).heap.size := by simp; omega
  have HST : Hid (StackAt W.heap.size 96 W0 lo [sub] (.slice (some ⟨W3.heap.size, 0, none⟩) 1 1) (W3.alloc (Obj.cells #[Value.slice p sub.length cap] 96))) := Lib.hid (stack_one HS.out hz3)
  have HI3 : Hid (ItStep W.heap.size W3 (W3.alloc (Obj.cells #[Value.slice p sub.length cap] 96))) := Lib.hid ((ItStep.refl _ _).alloc hz3 _)
  have HJ4 := Lib.hid (hJ _ _ _ hJ3 HI3.out)
  have hlo : lo ≤ W.heap.size := by omega
  have HL4 := Lib.hid (HL3.out.step HI3.out hlo)
  gi_wp2_with fail
  clear d5 HI3 HL3
  generalize (W3.alloc (Obj.cells #[Value.slice p sub.length cap] 96)) = W4 at *
  gi_loopw [3] (fun v wr => ∃ m, NodesRel W.heap.size 96 lo W0 (.mk k nm mr it d sub) J m v wr) (fun v wr => leastOf (fun m => NodesRel W.heap.size 96 lo W0 (.mk k nm mr it d sub) J m v wr))
  case atStart => exact ⟨_, _, _, HST.out, HJ4.out, HL4.out, hzs, by simp, by simp [projN, preE, restL], rfl⟩
  case round =>
   obtain ⟨hrel1, hleast⟩ := leastOf_spec hrel
   obtain ⟨M, hM⟩ : ∃ M, leastOf (fun m => NodesRel W.heap.size 96 lo W0 (.mk k nm mr it d sub) J m u3 wr) = M := ⟨_, rfl⟩
   rw [hM] at hrel1
   obtain ⟨pre, st, hst, hJr, hlr, hbz, hpl, hpre, hm⟩ := hrel1
   have HPRE := Lib.hid hpre
   have HLR := Lib.hid hlr
   have HMM := Lib.hid hm
   have HMQ := Lib.hid hM
   have HLE := Lib.hid hleast
   clear hpre hlr hm hM hleast hrel HST HJ4 HL4
   cases st with
   | nil =>
    obtain ⟨g, cp, _, rfl, _, _, _⟩ := stack_owns hst
    gi_wp2_with fail
    go_end0
    exact ⟨⟨_, rfl⟩, .inl ⟨pre, by unfold NodesAll; rw [← HPRE.out]; simp [restL], hJr⟩⟩
   | cons r st =>
    obtain ⟨g, cp, y, rfl, hg1, hg2, hg3, hg4, hcy, hfy, hy, hst'⟩ := stack_top hst
    have HST := Lib.hid hst
    have HST' := Lib.hid hst'
    clear hst hst'
    have hpl' : st.length + 1 ≤ pre.length := by simpa using hpl
    have hpn : pre.length ≤ 1048577 := by
     have h1 := congrArg List.length HPRE.out
     rw [preE_length, List.length_append, List.length_map] at h1
     simp only [nodesE] at h1; omega
    clear hpl
    obtain ⟨L, hL⟩ : ∃ L, st.length = L := ⟨_, rfl⟩
    rw [hL] at hcy hfy hg3 hpl' HST' HMQ
    unfold maxLen at hg4
    cases r with
    | nil =>
     obtain ⟨py, cy, rfl, _, _⟩ := hy
     rw [hL]
     gi_wp2_with fail
     go_roundw
     case rel => exact ⟨_, pre, st, HST'.out, hJr, HLR.out, hbz, by omega, by rw [← restL_pop]; exact HPRE.out, rfl⟩
     case measure =>
      have hMv := HMM.out
      rw [restL_pop, List.length_cons] at hMv
      rw [HMQ.out]
      exact least_lt (m := 2 * (restL st).length + st.length) ⟨pre, st, HST'.out, hJr, HLR.out, hbz, by omega, by rw [← restL_pop]; exact HPRE.out, rfl⟩ (by omega)
    | cons e es =>
     obtain ⟨b, off, cy, cv, rfl, hcy2, hblo, g0, g1, g2, g3, g4, g5, hsub⟩ := row_head hy HLR.out
     have HSUB := Lib.hid hsub
     obtain ⟨pc, cc, rfl, _, _⟩ := hsub
     have HTL := Lib.hid (subAt_tail hy)
     have hbg : b ≠ g := by omega
     have hgw : g ≠ wr.heap.size := by omega
     have hbw : b ≠ wr.heap.size := by omega
     have hblt : b < wr.heap.size := by omega
     have q0 : (0 : Int) ≤ (L : Int) := by omega
     have q1 : (L : Int) < (cp : Int) := by omega
     have HREL := Lib.hid (restL_push e es st)
     rw [hL] at HREL
     clear hy
     by_cases hc1 : cy = 1
     ·subst hc1
      obtain rfl : es = [] := by cases es with | nil => rfl | cons a r => simp at hcy2
      have HTL' : Hid (SubAt W0 lo [] (.slice (some ⟨b, off, none⟩) 0 0)) := Lib.hid (subAt_none _ _)
      have HA : Hid (ItStep W.heap.size wr ((wr.setCell ⟨g, L, none⟩ (.slice (some ⟨b, off, none⟩) 0 0)).alloc (.cells #[.int .i64 e.kind, .string e.name, .string e.more, .int .i64 e.int, .int .i64 e.den, .slice pc e.sub.length cc] 98))) := Lib.hid (((ItStep.refl _ _).setCell (p := ⟨g, L, none⟩) hg1 _).alloc (by simpa [World.setCell] using hbz) _)
      have HSA : Hid (StackAt W.heap.size 96 W0 lo ([] :: st) (.slice (some ⟨g, 0, none⟩) (L + 1) cp) ((wr.setCell ⟨g, L, none⟩ (.slice (some ⟨b, off, none⟩) 0 0)).alloc (.cells #[.int .i64 e.kind, .string e.name, .string e.more, .int .i64 e.int, .int .i64 e.den, .slice pc e.sub.length cc] 98))) := Lib.hid (by have h1 := stack_alloc (stack_set HST.out HTL'.out) (.cells #[.int .i64 e.kind, .string e.name, .string e.more, .int .i64 e.int, .int .i64 e.den, .slice pc e.sub.length cc] 98); rw [hL] at h1; exact h1)
      have HCA : Hid (((wr.setCell ⟨g, L, none⟩ (.slice (some ⟨b, off, none⟩) 0 0)).alloc (.cells #[.int .i64 e.kind, .string e.name, .string e.more, .int .i64 e.int, .int .i64 e.den, .slice pc e.sub.length cc] 98)).cell? ⟨wr.heap.size, 5, none⟩ = some (.slice pc e.sub.length cc)) := Lib.hid (by simp [go_sem])
      have hsa : wr.heap.size < ((wr.setCell ⟨g, L, none⟩ (.slice (some ⟨b, off, none⟩) 0 0)).alloc (.cells #[.int .i64 e.kind, .string e.name, .string e.more, .int .i64 e.int, .int .i64 e.den, .slice pc e.sub.length cc] 98)).heap.size := by simp [World.setCell]
      have HWA : Hid (∃ A, (wr.setCell ⟨g, L, none⟩ (.slice (some ⟨b, off, none⟩) 0 0)).alloc (.cells #[.int .i64 e.kind, .string e.name, .string e.more, .int .i64 e.int, .int .i64 e.den, .slice pc e.sub.length cc] 98) = A) := Lib.hid ⟨_, rfl⟩
      obtain ⟨fn, tmps, assign, body, hy, hR⟩ := hY pre (L + 2, e, pc, cc) _ (hJ _ _ _ hJr HA.out) (exAt_iff.2 ⟨_, rfl, HSUB.out⟩)
      replace hy : (Instr.yield l #[.int .i64 ((L : Int) + 1 + 1), .agg #[.int .i64 e.kind, .string e.name, .string e.more, .int .i64 e.int, .int .i64 e.den, .slice pc e.sub.length cc]]).run Tryz.prog ((wr.setCell ⟨g, L, none⟩ (.slice (some ⟨b, off, none⟩) 0 0)).alloc (.cells #[.int .i64 e.kind, .string e.name, .string e.more, .int .i64 e.int, .int .i64 e.den, .slice pc e.sub.length cc] 98)) = .ok (.round l fn tmps assign body) ((wr.setCell ⟨g, L, none⟩ (.slice (some ⟨b, off, none⟩) 0 0)).alloc (.cells #[.int .i64 e.kind, .string e.name, .string e.more, .int .i64 e.int, .int .i64 e.den, .slice pc e.sub.length cc] 98)) := hy
      rw [hL]
      gi_wp2_with fail
      generalize (wr.setCell ⟨g, L, none⟩ (.slice (some ⟨b, off, none⟩) 0 0)).alloc (.cells #[.int .i64 e.kind, .string e.name, .string e.more, .int .i64 e.int, .int .i64 e.den, .slice pc e.sub.length cc] 98) = A at *
      clear g0 g1 g2 g3 g4 g5 hcy hfy
      refine hR.mono ?_
      rintro e5 W5 (⟨rfl, hJ5, hk5⟩ | ⟨rfl, hJx5⟩)
      ·have d5 := keepOut_cell hk5 HCA.out (.inr (by show hi ≤ wr.heap.size; omega))
       have HS5 := Lib.hid (stack_keep HSA.out hk5 (by omega))
       have hz5 := hk5.size
       have HL5 := Lib.hid ((HLR.out.step HA.out hlo).keep hk5)
       have hb5 : W.heap.size ≤ W5.heap.size := by omega
       clear hy hR
       obtain ⟨g5, cp5, cur5, ys5, hv5, hgb5, hcur5, _⟩ := id HS5.out
       simp only [Value.slice.injEq, Option.some.injEq, Addr.mk.injEq, and_true] at hv5
       obtain ⟨rfl, -, rfl⟩ := hv5
       obtain ⟨g6, cp6, ys, hv6, hgb6, hown, hrows⟩ := stack_owns HS5.out
       have HROWS := Lib.hid hrows
       have HCUR := Lib.hid hcur5
       rw [List.length_cons, hL] at hown
       clear hv6 hrows hcur5
       gi_wp2_with (first
        | (gi_at_builtin; refine wpListIn_append_own _ rfl _ _ 237 rfl W.heap.size 96 i0 _ 1 24 Tryz.underlying237 hi0 hz0 hz1 hz2 rfl (by decide) _ _ _ rfl (hown.alloc _) ⟨W5.heap.size, 0, none⟩ 1 1 [.slice pc e.sub.length cc] rfl rfl ?c1 ?c2 ?c3 ?c4 ?c5 ?_))
       case c1 => exact cell1_at _ _ _
       case c2 => intro u hu; simp at hu; subst hu; rfl
       case c3 => unfold maxLen; omega
       case c4 => omega
       case c5 => simp; omega
       intro v' w6 hown6 hgrow hne
       have hvn : v' ≠ .slice none 0 0 := hne
       have HST6 := Lib.hid (stack_push hL hown6 hvn HROWS.out HSUB.out)
       have HI6 : Hid (ItStep W.heap.size W5 w6) := Lib.hid (((ItStep.refl _ _).alloc hb5 _).grown hgrow hgb5 (by simp; omega) ((Below.heap_alloc _ _ _ (Array.getElem?_eq_some_iff.1 HCUR.out).1).trans HCUR.out))
       have hz6 := HI6.out.others.size
       have HJ6 := Lib.hid (hJ _ _ _ hJ5 HI6.out)
       have HL6 := Lib.hid (HL5.out.step HI6.out hlo)
       have hM6 : 2 * (restL (e.sub :: [] :: st)).length + (e.sub :: [] :: st).length < M := by
        have h1 := HMM.out
        have h2 := congrArg List.length HREL.out
        simp only [List.length_cons] at h1 h2 ⊢
        omega
       have HR6 : Hid (NodesRel W.heap.size 96 lo W0 (.mk k nm mr it d sub) J (2 * (restL (e.sub :: [] :: st)).length + (e.sub :: [] :: st).length) v' w6) := Lib.hid ⟨_, _, HST6.out, HJ6.out, HL6.out, by omega, by simp; omega, by
        rw [← HPRE.out, HREL.out]; simp [projN], rfl⟩
       clear hown hown6 hgrow hne d5
       gi_wp2_with fail
       go_roundw
       case rel => exact ⟨_, HR6.out⟩
       case measure =>
        rw [HMQ.out]
        exact least_lt HR6.out hM6
      ·gi_wp2_with fail
       refine bodyPost_ret (results_none rfl _ _ _) rfl ?_
       exact ⟨⟨_, rfl⟩, .inr ⟨_, ⟨restL (e.sub :: [] :: st), by rw [← HPRE.out, HREL.out]; simp [projN]⟩, hJx5⟩⟩
     ·have HTL' := Lib.hid HTL.out
      have hc2 : (cy == 1) = false := by simpa using hc1
      have HA : Hid (ItStep W.heap.size wr ((wr.setCell ⟨g, L, none⟩ (.slice (some ⟨b, off + 6, none⟩) es.length (cy - 1))).alloc (.cells #[.int .i64 e.kind, .string e.name, .string e.more, .int .i64 e.int, .int .i64 e.den, .slice pc e.sub.length cc] 98))) := Lib.hid (((ItStep.refl _ _).setCell (p := ⟨g, L, none⟩) hg1 _).alloc (by simpa [World.setCell] using hbz) _)
      have HSA : Hid (StackAt W.heap.size 96 W0 lo (es :: st) (.slice (some ⟨g, 0, none⟩) (L + 1) cp) ((wr.setCell ⟨g, L, none⟩ (.slice (some ⟨b, off + 6, none⟩) es.length (cy - 1))).alloc (.cells #[.int .i64 e.kind, .string e.name, .string e.more, .int .i64 e.int, .int .i64 e.den, .slice pc e.sub.length cc] 98))) := Lib.hid (by have h1 := stack_alloc (stack_set HST.out HTL'.out) (.cells #[.int .i64 e.kind, .string e.name, .string e.more, .int .i64 e.int, .int .i64 e.den, .slice pc e.sub.length cc] 98); rw [hL] at h1; exact h1)
      have HCA : Hid (((wr.setCell ⟨g, L, none⟩ (.slice (some ⟨b, off + 6, none⟩) es.length (cy - 1))).alloc (.cells #[.int .i64 e.kind, .string e.name, .string e.more, .int .i64 e.int, .int .i64 e.den, .slice pc e.sub.length cc] 98)).cell? ⟨wr.heap.size, 5, none⟩ = some (.slice pc e.sub.length cc)) := Lib.hid (by simp [go_sem])
      have hsa : wr.heap.size < ((wr.setCell ⟨g, L, none⟩ (.slice (some ⟨b, off + 6, none⟩) es.length (cy - 1))).alloc (.cells #[.int .i64 e.kind, .string e.name, .string e.more, .int .i64 e.int, .int .i64 e.den, .slice pc e.sub.length cc] 98)).heap.size := by simp [World.setCell]
      have HWA : Hid (∃ A, (wr.setCell ⟨g, L, none⟩ (.slice (some ⟨b, off + 6, none⟩) es.length (cy - 1))).alloc (.cells #[.int .i64 e.kind, .string e.name, .string e.more, .int .i64 e.int, .int .i64 e.den, .slice pc e.sub.length cc] 98) = A) := Lib.hid ⟨_, rfl⟩
      obtain ⟨fn, tmps, assign, body, hy, hR⟩ := hY pre (L + 2, e, pc, cc) _ (hJ _ _ _ hJr HA.out) (exAt_iff.2 ⟨_, rfl, HSUB.out⟩)
      replace hy : (Instr.yield l #[.int .i64 ((L : Int) + 1 + 1), .agg #[.int .i64 e.kind, .string e.name, .string e.more, .int .i64 e.int, .int .i64 e.den, .slice pc e.sub.length cc]]).run Tryz.prog ((wr.setCell ⟨g, L, none⟩ (.slice (some ⟨b, off + 6, none⟩) es.length (cy - 1))).alloc (.cells #[.int .i64 e.kind, .string e.name, .string e.more, .int .i64 e.int, .int .i64 e.den, .slice pc e.sub.length cc] 98)) = .ok (.round l fn tmps assign body) ((wr.setCell ⟨g, L, none⟩ (.slice (some ⟨b, off + 6, none⟩) es.length (cy - 1))).alloc (.cells #[.int .i64 e.kind, .string e.name, .string e.more, .int .i64 e.int, .int .i64 e.den, .slice pc e.sub.length cc] 98)) := hy
      rw [hL]
      gi_wp2_with fail
      generalize (wr.setCell ⟨g, L, none⟩ (.slice (some ⟨b, off + 6, none⟩) es.length (cy - 1))).alloc (.cells #[.int .i64 e.kind, .string e.name, .string e.more, .int .i64 e.int, .int .i64 e.den, .slice pc e.sub.length cc] 98) = A at *
      clear g0 g1 g2 g3 g4 g5 hcy hfy
      refine hR.mono ?_
      rintro e5 W5 (⟨rfl, hJ5, hk5⟩ | ⟨rfl, hJx5⟩)
      ·have d5 := keepOut_cell hk5 HCA.out (.inr (by show hi ≤ wr.heap.size; omega))
       have HS5 := Lib.hid (stack_keep HSA.out hk5 (by omega))
       have hz5 := hk5.size
       have HL5 := Lib.hid ((HLR.out.step HA.out hlo).keep hk5)
       have hb5 : W.heap.size ≤ W5.heap.size := by omega
       clear hy hR
       obtain ⟨g5, cp5, cur5, ys5, hv5, hgb5, hcur5, _⟩ := id HS5.out
       simp only [Value.slice.injEq, Option.some.injEq, Addr.mk.injEq, and_true] at hv5
       obtain ⟨rfl, -, rfl⟩ := hv5
       obtain ⟨g6, cp6, ys, hv6, hgb6, hown, hrows⟩ := stack_owns HS5.out
       have HROWS := Lib.hid hrows
       have HCUR := Lib.hid hcur5
       rw [List.length_cons, hL] at hown
       clear hv6 hrows hcur5
       gi_wp2_with (first
        | (gi_at_builtin; refine wpListIn_append_own _ rfl _ _ 237 rfl W.heap.size 96 i0 _ 1 24 Tryz.underlying237 hi0 hz0 hz1 hz2 rfl (by decide) _ _ _ rfl (hown.alloc _) ⟨W5.heap.size, 0, none⟩ 1 1 [.slice pc e.sub.length cc] rfl rfl ?e1 ?e2 ?e3 ?e4 ?e5 ?_))
       case e1 => exact cell1_at _ _ _
       case e2 => intro u hu; simp at hu; subst hu; rfl
       case e3 => unfold maxLen; omega
       case e4 => omega
       case e5 => simp; omega
       intro v' w6 hown6 hgrow hne
       have hvn : v' ≠ .slice none 0 0 := hne
       have HST6 := Lib.hid (stack_push hL hown6 hvn HROWS.out HSUB.out)
       have HI6 : Hid (ItStep W.heap.size W5 w6) := Lib.hid (((ItStep.refl _ _).alloc hb5 _).grown hgrow hgb5 (by simp; omega) ((Below.heap_alloc _ _ _ (Array.getElem?_eq_some_iff.1 HCUR.out).1).trans HCUR.out))
       have hz6 := HI6.out.others.size
       have HJ6 := Lib.hid (hJ _ _ _ hJ5 HI6.out)
       have HL6 := Lib.hid (HL5.out.step HI6.out hlo)
       have hM6 : 2 * (restL (e.sub :: es :: st)).length + (e.sub :: es :: st).length < M := by
        have h1 := HMM.out
        have h2 := congrArg List.length HREL.out
        simp only [List.length_cons] at h1 h2 ⊢
        omega
       have HR6 : Hid (NodesRel W.heap.size 96 lo W0 (.mk k nm mr it d sub) J (2 * (restL (e.sub :: es :: st)).length + (e.sub :: es :: st).length) v' w6) := Lib.hid ⟨_, _, HST6.out, HJ6.out, HL6.out, by omega, by simp; omega, by
        rw [← HPRE.out, HREL.out]; simp [projN], rfl⟩
       clear hown hown6 hgrow hne d5
       gi_wp2_with fail
       go_roundw
       case rel => exact ⟨_, HR6.out⟩
       case measure =>
        rw [HMQ.out]
        exact least_lt HR6.out hM6
      ·gi_wp2_with fail
       refine bodyPost_ret (results_none rfl _ _ _) rfl ?_
       exact ⟨⟨_, rfl⟩, .inr ⟨_, ⟨restL (e.sub :: es :: st), by rw [← HPRE.out, HREL.out]; simp [projN]⟩, hJx5⟩⟩
 ·gi_wp2_with fail
  refine bodyPost_ret (results_none rfl _ _ _) rfl ?_
  exact ⟨⟨_, rfl⟩, .inr ⟨_, by unfold NodesPre; simp [projN, preE], hJx3⟩⟩
end
end
section
open Go.RowKit
end
section
open Go.RowKit
end
section
open Go.RowKit
end
section
open Go.RowKit
def CountRel (w1 : World) (f : List Ex → Nat) (sub : List Ex) (n i : Value) (wr : World) : Prop := ∃ j : Nat, j ≤ sub.length ∧ i = .int .i64 j ∧ n = .int .i64 (f (sub.take j) : Nat) ∧ Below w1.heap.size w1 wr
def LongRel (w1 : World) (f : List Ex → Bool) (sub : List Ex) (i : Value) (wr : World) : Prop := ∃ j : Nat, j ≤ sub.length ∧ i = .int .i64 j ∧ f (sub.take j) = false ∧ Below w1.heap.size w1 wr
set_option maxHeartbeats 1000000 in
theorem rNodes_any (N : Nat) : ∀ (k : Int) (nm mr : ByteArray) (it d : Int) (sub : List Ex) (sv : Value) (w : World), nodesL sub < N → nodesL sub ≤ 1099511627776 → SubAt w w.heap.size sub sv →
  Calls Tryz.prog 102 #[.agg #[.int .i64 k, .string nm, .string mr, .int .i64 it, .int .i64 d, sv]] w fun e w' => e = .returned (.int .i64 (nodesL sub + 1 : Nat)) ∧ Below w.heap.size w w' := by
 induction N with
 | zero => intro k nm mr it d sub sv w hN; omega
 | succ N ih =>
  intro k nm mr it d sub sv w hN hm hs
  have hl := length_le_nodesL sub
  obtain ⟨p, cap, rfl, hcap, _⟩ := subAt_open hs
  have HS := Lib.hid hs
  have HIH := Lib.hid ih
  clear hs ih
  obtain ⟨w1, hw1, hX⟩ := boxed w #[.int .i64 k, .string nm, .string mr, .int .i64 it, .int .i64 d, .slice p sub.length cap] 98
  have HW := Lib.hid hw1
  have hsz := hX.size
  have HB0 := Lib.hid hX.below
  have hc5 : w1.cell? ⟨w.heap.size, 5, none⟩ = some (.slice p sub.length cap) := hX.cell 5 (by simp)
  have HX := Lib.hid hX
  clear hX hw1
  go_enter Tryz.func102, Tryz.ntmps102
  go_wp2_with fail
  rw [HW.out]
  go_loopw [3, 4] (fun n i wr => CountRel w1 (fun l => nodesL l + 1) sub n i wr) (fun _ i _ => sub.length - (intOf i).toNat)
  case atStart => exact ⟨0, by omega, rfl, rfl, Below.refl _ _⟩
  case round =>
   obtain ⟨j, hj, rfl, rfl, hBr⟩ := hrel
   have hcr := (hBr.cell (p := ⟨w.heap.size, 5, none⟩) hsz).trans hc5
   have hcc := Lib.hid hc5
   have htk := nodesL_take_le sub j
   have hbd := hm
   clear hc5
   by_cases hlt : j < sub.length
   ·have hbw : Below w.heap.size w wr := HB0.out.trans (hBr.mono (by omega))
    obtain ⟨b, off, cv, rfl, g0, g1, g2, g3, g4, g5, g6⟩ := subAt_at HS.out hbw j hlt
    have hn1 := nodesL_get sub j hlt
    have hn2 := nodesE_eq sub[j]
    have hC := Lib.hid (HIH.out sub[j].kind sub[j].name sub[j].more sub[j].int sub[j].den sub[j].sub cv wr (by omega) (by omega) g6)
    have HT := Lib.hid (nodesL_take_succ sub j hlt)
    rw [hn2] at HT
    have hn3 : nodesL sub[j].sub + 1 ≤ nodesL sub := by omega
    clear g6 hn1 hn2
    go_wp2_with (go_at_call 102; refine (hC.out).mono ?_; rintro e w' ⟨rfl, hb1⟩)
    go_roundw
    case rel => exact ⟨j + 1, by omega, by go_num, by simp only []; rw [HT.out]; go_num, hBr.trans (hb1.mono hBr.size)⟩
    case measure => simp [intOf]; omega
   ·obtain rfl : j = sub.length := by omega
    go_wp2_with fail
    go_ret
    exact ⟨by simp [List.take_length], HB0.out.trans (hBr.mono (by omega))⟩
set_option maxHeartbeats 1000000 in
theorem rlong_any (N : Nat) : ∀ (k : Int) (nm mr : ByteArray) (it d : Int) (sub : List Ex) (sv : Value) (w : World), nodesL sub < N → nodesL sub ≤ 1099511627776 → SubAt w w.heap.size sub sv →
  Calls Tryz.prog 103 #[.agg #[.int .i64 k, .string nm, .string mr, .int .i64 it, .int .i64 d, sv]] w fun e w' => e = .returned (.bool (decide (100 < nm.size) || decide (100 < mr.size) || longL sub)) ∧ Below w.heap.size w w' := by
 induction N with
 | zero => intro k nm mr it d sub sv w hN; omega
 | succ N ih =>
  intro k nm mr it d sub sv w hN hm hs
  have hl := length_le_nodesL sub
  obtain ⟨p, cap, rfl, hcap, _⟩ := subAt_open hs
  have HS := Lib.hid hs
  have HIH := Lib.hid ih
  clear hs ih
  obtain ⟨w1, hw1, hX⟩ := boxed w #[.int .i64 k, .string nm, .string mr, .int .i64 it, .int .i64 d, .slice p sub.length cap] 98
  have HW := Lib.hid hw1
  have hsz := hX.size
  have HB0 := Lib.hid hX.below
  have hc5 : w1.cell? ⟨w.heap.size, 5, none⟩ = some (.slice p sub.length cap) := hX.cell 5 (by simp)
  have HX := Lib.hid hX
  clear hX hw1
  have hc1 : w1.cell? ⟨w.heap.size, 1, none⟩ = some (.string nm) := HX.out.cell 1 (by simp)
  have hc2 : w1.cell? ⟨w.heap.size, 2, none⟩ = some (.string mr) := HX.out.cell 2 (by simp)
  by_cases h1 : 100 < nm.size
  ·have h1' : decide (100 < (nm.size : Int)) = true := by simp; omega
   go_enter Tryz.func103, Tryz.ntmps103
   go_wp2_with fail
   go_ret
   exact ⟨by simp [h1], by rw [HW.out]; exact HB0.out⟩
  ·have h1' : decide (100 < (nm.size : Int)) = false := by simp; omega
   by_cases h2 : 100 < mr.size
   ·have h2' : decide (100 < (mr.size : Int)) = true := by simp; omega
    go_enter Tryz.func103, Tryz.ntmps103
    go_wp2_with fail
    go_ret
    exact ⟨by simp [h2], by rw [HW.out]; exact HB0.out⟩
   ·have h2' : decide (100 < (mr.size : Int)) = false := by simp; omega
    have H1 := Lib.hid h1
    have H2 := Lib.hid h2
    clear h1 h2
    go_enter Tryz.func103, Tryz.ntmps103
    go_wp2_with fail
    rw [HW.out]
    go_loopw [3] (fun i wr => LongRel w1 longL sub i wr) (fun i _ => sub.length - (intOf i).toNat)
    case atStart => exact ⟨0, by omega, rfl, rfl, Below.refl _ _⟩
    case round =>
     obtain ⟨j, hj, rfl, hP, hBr⟩ := hrel
     have HP := Lib.hid hP
     have hcr := (hBr.cell (p := ⟨w.heap.size, 5, none⟩) hsz).trans hc5
     have hcc := Lib.hid hc5
     clear hc5 hP
     by_cases hlt : j < sub.length
     ·have hbw : Below w.heap.size w wr := HB0.out.trans (hBr.mono (by omega))
      obtain ⟨b, off, cv, rfl, g0, g1, g2, g3, g4, g5, g6⟩ := subAt_at HS.out hbw j hlt
      have hn1 := nodesL_get sub j hlt
      have hn2 := nodesE_eq sub[j]
      have hC := Lib.hid (HIH.out sub[j].kind sub[j].name sub[j].more sub[j].int sub[j].den sub[j].sub cv wr (by omega) (by omega) g6)
      rw [← longE_eq] at hC
      have HT := Lib.hid (longL_take_succ sub j hlt)
      clear g6 hn1 hn2
      cases hq : longE sub[j]
      ·rw [hq] at hC HT
       go_wp2_with (go_at_call 103; refine (hC.out).mono ?_; rintro e w' ⟨rfl, hb1⟩)
       go_roundw
       case rel => exact ⟨j + 1, by omega, by go_num, by rw [HT.out, HP.out]; rfl, hBr.trans (hb1.mono hBr.size)⟩
       case measure => simp [intOf]; omega
      ·rw [hq] at hC
       have HL := Lib.hid (longL_of hlt hq)
       go_wp2_with (go_at_call 103; refine (hC.out).mono ?_; rintro e w' ⟨rfl, hb1⟩)
       go_ret
       exact ⟨by simp [HL.out], HB0.out.trans ((hBr.mono (by omega)).trans (hb1.mono (by have := hBr.size; omega)))⟩
     ·obtain rfl : j = sub.length := by omega
      rw [List.take_length] at HP
      go_wp2_with fail
      go_ret
      exact ⟨by simp [HP.out, H1.out, H2.out], HB0.out.trans (hBr.mono (by omega))⟩
end
section
open Go.RowKit
def greatE (t : Ex) : Bool := decide (40 < nodesE t) || longE t
theorem below_drewE {B : Nat} {a w : World} (h : Below B a w) : Below B a w.drew := ⟨h.os, h.tape, h.output, h.size, h.block⟩
set_option maxHeartbeats 1000000 in
theorem rGreat_any (k : Int) (nm mr : ByteArray) (it d : Int) (sub : List Ex) (sv : Value) (w : World) (hm : nodesL sub ≤ 1099511627776) (hs : SubAt w w.heap.size sub sv) :
  Calls Tryz.prog 70 #[.agg #[.int .i64 k, .string nm, .string mr, .int .i64 it, .int .i64 d, sv]] w fun e w' => e = .returned (.bool (greatE (.mk k nm mr it d sub))) ∧ Below w.heap.size w w' := by
 obtain ⟨p, cap, rfl, hcap, _⟩ := subAt_open hs
 obtain ⟨w1, hw1, hX⟩ := boxed w #[.int .i64 k, .string nm, .string mr, .int .i64 it, .int .i64 d, .slice p sub.length cap] 98
 have HW := Lib.hid hw1
 have hsz := hX.size
 have HB0 := Lib.hid hX.below
 have hs1 := subAt_below hs hX.below hX.below.size
 have HN := Lib.hid (rNodes_any (nodesL sub + 1) k nm mr it d sub _ w1 (by omega) hm hs1)
 have HX := Lib.hid hX
 have HS := Lib.hid hs1
 obtain ⟨n, hn⟩ : ∃ n, nodesL sub + 1 = n := ⟨_, rfl⟩
 rw [hn] at HN
 have hn1 : n ≤ 1099511627777 := by omega
 have hEq := Lib.hid hn
 clear hs hs1 hX hw1 hn
 go_enter Tryz.func70, Tryz.ntmps70
 go_wp2_with fail
 rw [HW.out]
 refine (HN.out).mono ?_
 rintro e w2 ⟨rfl, hb⟩
 have hbs := hb.size
 obtain ⟨c0, c1, c2, c3, c4, c5⟩ := boxed6 HX.out hb
 by_cases hgt : 40 < n
 ·have hd : decide (40 < (n : Int)) = true := by simp; omega
  go_wp2_with fail
  go_ret
  exact ⟨by simp [greatE, nodesE, hEq.out, hgt], HB0.out.trans (hb.mono (by omega))⟩
 ·have hd : decide (40 < (n : Int)) = false := by simp; omega
  have HG := Lib.hid hgt
  have HL := Lib.hid (rlong_any (nodesL sub + 1) k nm mr it d sub _ w2 (by omega) hm (subAt_below HS.out hb hb.size))
  clear hgt
  go_wp2_with (go_at_call 103; refine (HL.out).mono ?_; rintro e w3 ⟨rfl, hb3⟩)
  go_ret
  exact ⟨by simp [greatE, nodesE, longE, hEq.out, HG.out], HB0.out.trans ((hb.mono (by omega)).trans (hb3.mono (by omega)))⟩
def SameRel (w2 : World) (s t : List Ex) (i : Value) (wr : World) : Prop := ∃ j : Nat, j ≤ s.length ∧ i = .int .i64 j ∧ sameL (s.take j) (t.take j) = true ∧ Below w2.heap.size w2 wr
set_option maxRecDepth 100000 in
set_option maxHeartbeats 2000000 in
theorem rSame_any (N : Nat) : ∀ (k : Int) (nm mr : ByteArray) (it d : Int) (sub : List Ex) (sv : Value) (k' : Int) (nm' mr' : ByteArray) (it' d' : Int) (sub' : List Ex) (sv' : Value) (w : World), nodesL sub < N → nodesL sub ≤ 1099511627776 → SubAt w w.heap.size sub sv → SubAt w w.heap.size sub' sv' →
  Calls Tryz.prog 177 #[.agg #[.int .i64 k, .string nm, .string mr, .int .i64 it, .int .i64 d, sv], .agg #[.int .i64 k', .string nm', .string mr', .int .i64 it', .int .i64 d', sv']] w fun e w' => e = .returned (.bool (sameE (.mk k nm mr it d sub) (.mk k' nm' mr' it' d' sub'))) ∧ Below w.heap.size w w' := by
 induction N with
 | zero => intro k nm mr it d sub sv _ _ _ _ _ _ _ w hN; omega
 | succ N ih =>
  intro k nm mr it d sub sv k' nm' mr' it' d' sub' sv' w hN hm hs hs'
  have hl := length_le_nodesL sub
  obtain ⟨p, cap, rfl, hcap, _⟩ := subAt_open hs
  obtain ⟨p', cap', rfl, hcap', _⟩ := subAt_open hs'
  obtain ⟨w1, hw1, hX⟩ := boxed w #[.int .i64 k, .string nm, .string mr, .int .i64 it, .int .i64 d, .slice p sub.length cap] 98
  obtain ⟨w2, hw2, hX2⟩ := boxed w1 #[.int .i64 k', .string nm', .string mr', .int .i64 it', .int .i64 d', .slice p' sub'.length cap'] 98
  have hz1 : w1.heap.size = w.heap.size + 1 := by rw [← hw1]; simp
  have hsz := hX.size
  have hsz2 := hX2.size
  have hB : Below w.heap.size w w2 := hX.below.trans (hX2.below.mono (by omega))
  have HS := Lib.hid hs
  have HS' := Lib.hid hs'
  have HIH := Lib.hid ih
  have HB := Lib.hid hB
  have HX := Lib.hid hX
  have HX2 := Lib.hid hX2
  have HW : Hid ((w.alloc (.cells #[.int .i64 k, .string nm, .string mr, .int .i64 it, .int .i64 d, .slice p sub.length cap] 98)).alloc (.cells #[.int .i64 k', .string nm', .string mr', .int .i64 it', .int .i64 d', .slice p' sub'.length cap'] 98) = w2) := Lib.hid (by rw [hw1, hw2])
  have HSE : Hid (sameE (.mk k nm mr it d sub) (.mk k' nm' mr' it' d' sub') = (alikeE (.mk k nm mr it d sub) (.mk k' nm' mr' it' d' sub') && sameL sub sub')) := Lib.hid (sameE_alike _ _)
  have HZ1 := Lib.hid hz1
  clear hs hs' ih hB hX hX2 hw1 hw2 hz1
  by_cases hal : alikeE (.mk k nm mr it d sub) (.mk k' nm' mr' it' d' sub') = true
  ·obtain ⟨rfl, rfl, rfl, rfl, rfl, hlen⟩ : k = k' ∧ nm = nm' ∧ mr = mr' ∧ it = it' ∧ d = d' ∧ sub.length = sub'.length := (alikeE_iff _ _).1 hal
   rw [hal] at HSE
   have HLEN := Lib.hid hlen
   have e1 : ((sub.length : Int) != (sub'.length : Int)) = false := by rw [hlen]; simp
   have e2 : (sub.length != sub'.length) = false := by rw [hlen]; simp
   clear hal hlen
   go_enter Tryz.func177, Tryz.ntmps177
   go_wp2_with fail
   rw [HW.out]
   obtain ⟨_, _, _, _, _, ha5⟩ := boxed6 HX.out HX2.out.below
   obtain ⟨_, _, _, _, _, hb5⟩ := boxed6 HX2.out (Below.refl _ _)
   rw [HZ1.out] at hb5
   have HA5 := Lib.hid ha5
   have HB5 := Lib.hid hb5
   clear ha5 hb5
   go_loopw [5] (fun i wr => SameRel w2 sub sub' i wr) (fun i _ => sub.length - (intOf i).toNat)
   case atStart => exact ⟨0, by omega, rfl, by simp [sameL], Below.refl _ _⟩
   case round =>
    obtain ⟨j, hj, rfl, hP, hBr⟩ := hrel
    have HP := Lib.hid hP
    have hcr := (hBr.cell (p := ⟨w.heap.size, 5, none⟩) (by show w.heap.size < _; omega)).trans HA5.out
    have hcr' := (hBr.cell (p := ⟨w.heap.size + 1, 5, none⟩) (by have := HZ1.out; show w.heap.size + 1 < _; omega)).trans HB5.out
    clear hP
    by_cases hlt : j < sub.length
    ·have hlt' : j < sub'.length := by have := HLEN.out; omega
     have hbw : Below w.heap.size w wr := HB.out.trans (hBr.mono (by omega))
     obtain ⟨b, off, cv, rfl, g0, g1, g2, g3, g4, g5, g6⟩ := subAt_at HS.out hbw j hlt
     obtain ⟨b', off', cv', rfl, g0', g1', g2', g3', g4', g5', g6'⟩ := subAt_at HS'.out hbw j hlt'
     have hn1 := nodesL_get sub j hlt
     have hn2 := nodesE_eq sub[j]
     have hD : Below wr.heap.size wr wr.drew := below_drewE (Below.refl _ _)
     have hC := Lib.hid (HIH.out sub[j].kind sub[j].name sub[j].more sub[j].int sub[j].den sub[j].sub cv sub'[j].kind sub'[j].name sub'[j].more sub'[j].int sub'[j].den sub'[j].sub cv' wr.drew (by omega) (by omega) (subAt_below g6 hD hD.size) (subAt_below g6' hD hD.size))
     rw [Ex.eta, Ex.eta] at hC
     have HT := Lib.hid (sameL_take_succ sub sub' j hlt hlt')
     have l0 : (0 : Int) ≤ (j : Int) := by omega
     have l1 : (j : Int) < (sub.length : Int) := by omega
     have l2 : (j : Int) < (sub'.length : Int) := by omega
     clear g6 g6' hn1 hn2 hD
     go_wp2_with fail
     go_still_tail 10, (by kernel_rfl)
     cases hq : sameE sub[j] sub'[j]
     ·rw [hq] at hC
      have HL := Lib.hid (sameL_bad HLEN.out hlt hlt' hq)
      clear hq
      go_wp2_with (go_at_call 177; refine (hC.out).mono ?_; rintro e w' ⟨rfl, hb1⟩)
      go_ret
      exact ⟨by rw [HSE.out, HL.out]; rfl, HB.out.trans (((below_drewE hBr).mono (by omega)).trans (hb1.mono (by have := hBr.size; show _ ≤ wr.heap.size; omega)))⟩
     ·rw [hq] at hC HT
      clear hq
      go_wp2_with (go_at_call 177; refine (hC.out).mono ?_; rintro e w' ⟨rfl, hb1⟩)
      go_roundw
      case rel => exact ⟨j + 1, by omega, by go_num, by rw [HT.out, HP.out]; rfl, (below_drewE hBr).trans (hb1.mono hBr.size)⟩
      case measure => simp [intOf]; omega
    ·obtain rfl : j = sub.length := by omega
     have HP' : Hid (sameL sub sub' = true) := Lib.hid (by have := HP.out; rw [List.take_length, HLEN.out, List.take_length] at this; exact this)
     go_wp2_with fail
     go_ret
     exact ⟨by rw [HSE.out, HP'.out]; rfl, HB.out.trans (hBr.mono (by omega))⟩
  ·have hal' : alikeE (.mk k nm mr it d sub) (.mk k' nm' mr' it' d' sub') = false := by simpa using hal
   rw [hal'] at HSE
   clear hal'
   by_cases h0 : k = k'
   rotate_left
   ·have f0 : (k != k') = true := by simpa using h0
    clear h0 hal
    go_enter Tryz.func177, Tryz.ntmps177
    go_wp2_with fail
    go_ret
    exact ⟨by rw [HSE.out]; rfl, by rw [HW.out]; exact HB.out⟩
   subst h0
   by_cases h1 : nm = nm'
   rotate_left
   ·have f1 : (nm.toList == nm'.toList) = false := (Lib.bytes_beq_false_iff _ _).2 h1
    clear h1 hal
    go_enter Tryz.func177, Tryz.ntmps177
    go_wp2_with fail
    go_ret
    exact ⟨by rw [HSE.out]; rfl, by rw [HW.out]; exact HB.out⟩
   subst h1
   by_cases h2 : mr = mr'
   rotate_left
   ·have f2 : (mr.toList == mr'.toList) = false := (Lib.bytes_beq_false_iff _ _).2 h2
    clear h2 hal
    go_enter Tryz.func177, Tryz.ntmps177
    go_wp2_with fail
    go_ret
    exact ⟨by rw [HSE.out]; rfl, by rw [HW.out]; exact HB.out⟩
   subst h2
   by_cases h3 : it = it'
   rotate_left
   ·have f3 : (it != it') = true := by simpa using h3
    clear h3 hal
    go_enter Tryz.func177, Tryz.ntmps177
    go_wp2_with fail
    go_ret
    exact ⟨by rw [HSE.out]; rfl, by rw [HW.out]; exact HB.out⟩
   subst h3
   by_cases h4 : d = d'
   rotate_left
   ·have f4 : (d != d') = true := by simpa using h4
    clear h4 hal
    go_enter Tryz.func177, Tryz.ntmps177
    go_wp2_with fail
    go_ret
    exact ⟨by rw [HSE.out]; rfl, by rw [HW.out]; exact HB.out⟩
   subst h4
   have hlen : sub.length ≠ sub'.length := fun h => hal ((alikeE_iff _ _).2 ⟨rfl, rfl, rfl, rfl, rfl, h⟩)
   have f6 : ((sub.length : Int) != (sub'.length : Int)) = true := by simp; omega
   have f7 : (sub.length != sub'.length) = true := by simp; omega
   clear hal hlen
   go_enter Tryz.func177, Tryz.ntmps177
   go_wp2_with fail
   go_ret
   exact ⟨by rw [HSE.out]; rfl, by rw [HW.out]; exact HB.out⟩
end
section
open Go.RowKit
def hasB (l : List ByteArray) (s : ByteArray) : Bool := l.any fun x => decide (x = s)
theorem hasB_no {l : List ByteArray} {s : ByteArray} (h : ∀ i (hi : i < l.length), l[i] ≠ s) : hasB l s = false := by
 rw [hasB, List.any_eq_false]; intro x hx
 obtain ⟨i, hi, rfl⟩ := List.getElem_of_mem hx
 simpa using h i hi
def reservedL : List ByteArray := [⟨#[99, 97, 115, 101]⟩, ⟨#[99, 104, 97, 110, 99, 101]⟩, ⟨#[99, 111, 110, 102, 108, 105, 99, 116]⟩, ⟨#[101, 108, 115, 101]⟩, ⟨#[102, 97, 108, 115, 101]⟩, ⟨#[102, 108, 97, 107, 121]⟩, ⟨#[102, 117, 110]⟩, ⟨#[105, 102]⟩, ⟨#[105, 110]⟩, ⟨#[108, 101, 116]⟩, ⟨#[110, 105, 108]⟩, ⟨#[111, 102]⟩, ⟨#[112, 117, 98]⟩, ⟨#[116, 101, 115, 116]⟩, ⟨#[116, 104, 101, 110]⟩, ⟨#[116, 114, 117, 101]⟩, ⟨#[117, 115, 101]⟩]
def nameB (s : ByteArray) : Bool := wordL 24 s.data.toList && !hasB reservedL s
end
section
open Go.RowKit
def shapeK (k : Int) : Option (Nat × Nat × Nat) :=
 if k = 1 then some (0, 1, 0) else
 if k = 2 then some (0, 1, 0) else
 if k = 3 then some (1, 0, 0) else
 if k = 4 then some (2, 0, 0) else
 if k = 5 then some (1, 1, 0) else
 if k = 6 then some (1, 0, 1) else
 if k = 7 then some (0, 0, 2) else
 if k = 8 then some (1, 0, 2) else
 if k = 9 then some (0, 0, 3) else
 if k = 10 then some (1, 0, 2) else
 if k = 11 then some (0, 0, 0) else
 if k = 12 then some (0, 0, 2) else
 if k = 13 then some (2, 0, 3) else
 if k = 14 then some (0, 2, 0) else
 if k = 15 then some (0, 0, 3) else
 none
theorem shapeK_cases {k : Int} {s : Nat × Nat × Nat} (h : shapeK k = some s) : (k = 1 ∧ s = (0, 1, 0)) ∨ (k = 2 ∧ s = (0, 1, 0)) ∨ (k = 3 ∧ s = (1, 0, 0)) ∨ (k = 4 ∧ s = (2, 0, 0)) ∨ (k = 5 ∧ s = (1, 1, 0)) ∨ (k = 6 ∧ s = (1, 0, 1)) ∨ (k = 7 ∧ s = (0, 0, 2)) ∨ (k = 8 ∧ s = (1, 0, 2)) ∨ (k = 9 ∧ s = (0, 0, 3)) ∨ (k = 10 ∧ s = (1, 0, 2)) ∨ (k = 11 ∧ s = (0, 0, 0)) ∨ (k = 12 ∧ s = (0, 0, 2)) ∨ (k = 13 ∧ s = (2, 0, 3)) ∨ (k = 14 ∧ s = (0, 2, 0)) ∨ (k = 15 ∧ s = (0, 0, 3)) := by
 unfold shapeK at h
 by_cases e1 : k = 1
 ·rw [if_pos e1] at h; exact .inl ⟨e1, (Option.some.inj h).symm⟩
 rw [if_neg e1] at h
 by_cases e2 : k = 2
 ·rw [if_pos e2] at h; exact .inr (.inl ⟨e2, (Option.some.inj h).symm⟩)
 rw [if_neg e2] at h
 by_cases e3 : k = 3
 ·rw [if_pos e3] at h; exact .inr (.inr (.inl ⟨e3, (Option.some.inj h).symm⟩))
 rw [if_neg e3] at h
 by_cases e4 : k = 4
 ·rw [if_pos e4] at h; exact .inr (.inr (.inr (.inl ⟨e4, (Option.some.inj h).symm⟩)))
 rw [if_neg e4] at h
 by_cases e5 : k = 5
 ·rw [if_pos e5] at h; exact .inr (.inr (.inr (.inr (.inl ⟨e5, (Option.some.inj h).symm⟩))))
 rw [if_neg e5] at h
 by_cases e6 : k = 6
 ·rw [if_pos e6] at h; exact .inr (.inr (.inr (.inr (.inr (.inl ⟨e6, (Option.some.inj h).symm⟩)))))
 rw [if_neg e6] at h
 by_cases e7 : k = 7
 ·rw [if_pos e7] at h; exact .inr (.inr (.inr (.inr (.inr (.inr (.inl ⟨e7, (Option.some.inj h).symm⟩))))))
 rw [if_neg e7] at h
 by_cases e8 : k = 8
 ·rw [if_pos e8] at h; exact .inr (.inr (.inr (.inr (.inr (.inr (.inr (.inl ⟨e8, (Option.some.inj h).symm⟩)))))))
 rw [if_neg e8] at h
 by_cases e9 : k = 9
 ·rw [if_pos e9] at h; exact .inr (.inr (.inr (.inr (.inr (.inr (.inr (.inr (.inl ⟨e9, (Option.some.inj h).symm⟩))))))))
 rw [if_neg e9] at h
 by_cases e10 : k = 10
 ·rw [if_pos e10] at h; exact .inr (.inr (.inr (.inr (.inr (.inr (.inr (.inr (.inr (.inl ⟨e10, (Option.some.inj h).symm⟩)))))))))
 rw [if_neg e10] at h
 by_cases e11 : k = 11
 ·rw [if_pos e11] at h; exact .inr (.inr (.inr (.inr (.inr (.inr (.inr (.inr (.inr (.inr (.inl ⟨e11, (Option.some.inj h).symm⟩))))))))))
 rw [if_neg e11] at h
 by_cases e12 : k = 12
 ·rw [if_pos e12] at h; exact .inr (.inr (.inr (.inr (.inr (.inr (.inr (.inr (.inr (.inr (.inr (.inl ⟨e12, (Option.some.inj h).symm⟩)))))))))))
 rw [if_neg e12] at h
 by_cases e13 : k = 13
 ·rw [if_pos e13] at h; exact .inr (.inr (.inr (.inr (.inr (.inr (.inr (.inr (.inr (.inr (.inr (.inr (.inl ⟨e13, (Option.some.inj h).symm⟩))))))))))))
 rw [if_neg e13] at h
 by_cases e14 : k = 14
 ·rw [if_pos e14] at h; exact .inr (.inr (.inr (.inr (.inr (.inr (.inr (.inr (.inr (.inr (.inr (.inr (.inr (.inl ⟨e14, (Option.some.inj h).symm⟩)))))))))))))
 rw [if_neg e14] at h
 by_cases e15 : k = 15
 ·rw [if_pos e15] at h; exact .inr (.inr (.inr (.inr (.inr (.inr (.inr (.inr (.inr (.inr (.inr (.inr (.inr (.inr (⟨e15, (Option.some.inj h).symm⟩))))))))))))))
 rw [if_neg e15] at h
 cases h
theorem shapeK_none {k : Int} (h : shapeK k = none) : (k == 1) = false ∧ (k == 2) = false ∧ (k == 3) = false ∧ (k == 4) = false ∧ (k == 5) = false ∧ (k == 6) = false ∧ (k == 7) = false ∧ (k == 8) = false ∧ (k == 9) = false ∧ (k == 10) = false ∧ (k == 11) = false ∧ (k == 12) = false ∧ (k == 13) = false ∧ (k == 14) = false ∧ (k == 15) = false := by
 unfold shapeK at h
 by_cases e1 : k = 1
 ·rw [if_pos e1] at h; cases h
 rw [if_neg e1] at h
 by_cases e2 : k = 2
 ·rw [if_pos e2] at h; cases h
 rw [if_neg e2] at h
 by_cases e3 : k = 3
 ·rw [if_pos e3] at h; cases h
 rw [if_neg e3] at h
 by_cases e4 : k = 4
 ·rw [if_pos e4] at h; cases h
 rw [if_neg e4] at h
 by_cases e5 : k = 5
 ·rw [if_pos e5] at h; cases h
 rw [if_neg e5] at h
 by_cases e6 : k = 6
 ·rw [if_pos e6] at h; cases h
 rw [if_neg e6] at h
 by_cases e7 : k = 7
 ·rw [if_pos e7] at h; cases h
 rw [if_neg e7] at h
 by_cases e8 : k = 8
 ·rw [if_pos e8] at h; cases h
 rw [if_neg e8] at h
 by_cases e9 : k = 9
 ·rw [if_pos e9] at h; cases h
 rw [if_neg e9] at h
 by_cases e10 : k = 10
 ·rw [if_pos e10] at h; cases h
 rw [if_neg e10] at h
 by_cases e11 : k = 11
 ·rw [if_pos e11] at h; cases h
 rw [if_neg e11] at h
 by_cases e12 : k = 12
 ·rw [if_pos e12] at h; cases h
 rw [if_neg e12] at h
 by_cases e13 : k = 13
 ·rw [if_pos e13] at h; cases h
 rw [if_neg e13] at h
 by_cases e14 : k = 14
 ·rw [if_pos e14] at h; cases h
 rw [if_neg e14] at h
 by_cases e15 : k = 15
 ·rw [if_pos e15] at h; cases h
 rw [if_neg e15] at h
 exact ⟨by simpa using e1, by simpa using e2, by simpa using e3, by simpa using e4, by simpa using e5, by simpa using e6, by simpa using e7, by simpa using e8, by simpa using e9, by simpa using e10, by simpa using e11, by simpa using e12, by simpa using e13, by simpa using e14, by simpa using e15⟩
theorem sshapeOf_1 (w : World) : Calls Tryz.prog 167 #[.int .i64 1] w fun e w' => e = .returned (.tuple #[.agg #[.int .i64 0, .int .i64 1, .int .i64 0], .bool true]) ∧ Below w.heap.size w w' := by
 go_enter Tryz.func167, Tryz.ntmps167
 go_wp2_with fail
 exact bodyPost_ret (v := .tuple #[.agg #[.int .i64 0, .int .i64 1, .int .i64 0], .bool true]) (by simp [results, Tryz.results167, go_sem]) rfl ⟨rfl, (Below.refl _ _).alloc (Nat.le_refl _) _⟩
theorem sshapeOf_2 (w : World) : Calls Tryz.prog 167 #[.int .i64 2] w fun e w' => e = .returned (.tuple #[.agg #[.int .i64 0, .int .i64 1, .int .i64 0], .bool true]) ∧ Below w.heap.size w w' := by
 go_enter Tryz.func167, Tryz.ntmps167
 go_wp2_with fail
 exact bodyPost_ret (v := .tuple #[.agg #[.int .i64 0, .int .i64 1, .int .i64 0], .bool true]) (by simp [results, Tryz.results167, go_sem]) rfl ⟨rfl, (Below.refl _ _).alloc (Nat.le_refl _) _⟩
theorem sshapeOf_3 (w : World) : Calls Tryz.prog 167 #[.int .i64 3] w fun e w' => e = .returned (.tuple #[.agg #[.int .i64 1, .int .i64 0, .int .i64 0], .bool true]) ∧ Below w.heap.size w w' := by
 go_enter Tryz.func167, Tryz.ntmps167
 go_wp2_with fail
 exact bodyPost_ret (v := .tuple #[.agg #[.int .i64 1, .int .i64 0, .int .i64 0], .bool true]) (by simp [results, Tryz.results167, go_sem]) rfl ⟨rfl, (Below.refl _ _).alloc (Nat.le_refl _) _⟩
theorem sshapeOf_4 (w : World) : Calls Tryz.prog 167 #[.int .i64 4] w fun e w' => e = .returned (.tuple #[.agg #[.int .i64 2, .int .i64 0, .int .i64 0], .bool true]) ∧ Below w.heap.size w w' := by
 go_enter Tryz.func167, Tryz.ntmps167
 go_wp2_with fail
 exact bodyPost_ret (v := .tuple #[.agg #[.int .i64 2, .int .i64 0, .int .i64 0], .bool true]) (by simp [results, Tryz.results167, go_sem]) rfl ⟨rfl, (Below.refl _ _).alloc (Nat.le_refl _) _⟩
theorem sshapeOf_5 (w : World) : Calls Tryz.prog 167 #[.int .i64 5] w fun e w' => e = .returned (.tuple #[.agg #[.int .i64 1, .int .i64 1, .int .i64 0], .bool true]) ∧ Below w.heap.size w w' := by
 go_enter Tryz.func167, Tryz.ntmps167
 go_wp2_with fail
 exact bodyPost_ret (v := .tuple #[.agg #[.int .i64 1, .int .i64 1, .int .i64 0], .bool true]) (by simp [results, Tryz.results167, go_sem]) rfl ⟨rfl, (Below.refl _ _).alloc (Nat.le_refl _) _⟩
theorem sshapeOf_6 (w : World) : Calls Tryz.prog 167 #[.int .i64 6] w fun e w' => e = .returned (.tuple #[.agg #[.int .i64 1, .int .i64 0, .int .i64 1], .bool true]) ∧ Below w.heap.size w w' := by
 go_enter Tryz.func167, Tryz.ntmps167
 go_wp2_with fail
 exact bodyPost_ret (v := .tuple #[.agg #[.int .i64 1, .int .i64 0, .int .i64 1], .bool true]) (by simp [results, Tryz.results167, go_sem]) rfl ⟨rfl, (Below.refl _ _).alloc (Nat.le_refl _) _⟩
theorem sshapeOf_7 (w : World) : Calls Tryz.prog 167 #[.int .i64 7] w fun e w' => e = .returned (.tuple #[.agg #[.int .i64 0, .int .i64 0, .int .i64 2], .bool true]) ∧ Below w.heap.size w w' := by
 go_enter Tryz.func167, Tryz.ntmps167
 go_wp2_with fail
 exact bodyPost_ret (v := .tuple #[.agg #[.int .i64 0, .int .i64 0, .int .i64 2], .bool true]) (by simp [results, Tryz.results167, go_sem]) rfl ⟨rfl, (Below.refl _ _).alloc (Nat.le_refl _) _⟩
theorem sshapeOf_8 (w : World) : Calls Tryz.prog 167 #[.int .i64 8] w fun e w' => e = .returned (.tuple #[.agg #[.int .i64 1, .int .i64 0, .int .i64 2], .bool true]) ∧ Below w.heap.size w w' := by
 go_enter Tryz.func167, Tryz.ntmps167
 go_wp2_with fail
 exact bodyPost_ret (v := .tuple #[.agg #[.int .i64 1, .int .i64 0, .int .i64 2], .bool true]) (by simp [results, Tryz.results167, go_sem]) rfl ⟨rfl, (Below.refl _ _).alloc (Nat.le_refl _) _⟩
theorem sshapeOf_9 (w : World) : Calls Tryz.prog 167 #[.int .i64 9] w fun e w' => e = .returned (.tuple #[.agg #[.int .i64 0, .int .i64 0, .int .i64 3], .bool true]) ∧ Below w.heap.size w w' := by
 go_enter Tryz.func167, Tryz.ntmps167
 go_wp2_with fail
 exact bodyPost_ret (v := .tuple #[.agg #[.int .i64 0, .int .i64 0, .int .i64 3], .bool true]) (by simp [results, Tryz.results167, go_sem]) rfl ⟨rfl, (Below.refl _ _).alloc (Nat.le_refl _) _⟩
theorem sshapeOf_10 (w : World) : Calls Tryz.prog 167 #[.int .i64 10] w fun e w' => e = .returned (.tuple #[.agg #[.int .i64 1, .int .i64 0, .int .i64 2], .bool true]) ∧ Below w.heap.size w w' := by
 go_enter Tryz.func167, Tryz.ntmps167
 go_wp2_with fail
 exact bodyPost_ret (v := .tuple #[.agg #[.int .i64 1, .int .i64 0, .int .i64 2], .bool true]) (by simp [results, Tryz.results167, go_sem]) rfl ⟨rfl, (Below.refl _ _).alloc (Nat.le_refl _) _⟩
theorem sshapeOf_11 (w : World) : Calls Tryz.prog 167 #[.int .i64 11] w fun e w' => e = .returned (.tuple #[.agg #[.int .i64 0, .int .i64 0, .int .i64 0], .bool true]) ∧ Below w.heap.size w w' := by
 go_enter Tryz.func167, Tryz.ntmps167
 go_wp2_with fail
 exact bodyPost_ret (v := .tuple #[.agg #[.int .i64 0, .int .i64 0, .int .i64 0], .bool true]) (by simp [results, Tryz.results167, go_sem]) rfl ⟨rfl, (Below.refl _ _).alloc (Nat.le_refl _) _⟩
theorem sshapeOf_12 (w : World) : Calls Tryz.prog 167 #[.int .i64 12] w fun e w' => e = .returned (.tuple #[.agg #[.int .i64 0, .int .i64 0, .int .i64 2], .bool true]) ∧ Below w.heap.size w w' := by
 go_enter Tryz.func167, Tryz.ntmps167
 go_wp2_with fail
 exact bodyPost_ret (v := .tuple #[.agg #[.int .i64 0, .int .i64 0, .int .i64 2], .bool true]) (by simp [results, Tryz.results167, go_sem]) rfl ⟨rfl, (Below.refl _ _).alloc (Nat.le_refl _) _⟩
theorem sshapeOf_13 (w : World) : Calls Tryz.prog 167 #[.int .i64 13] w fun e w' => e = .returned (.tuple #[.agg #[.int .i64 2, .int .i64 0, .int .i64 3], .bool true]) ∧ Below w.heap.size w w' := by
 go_enter Tryz.func167, Tryz.ntmps167
 go_wp2_with fail
 exact bodyPost_ret (v := .tuple #[.agg #[.int .i64 2, .int .i64 0, .int .i64 3], .bool true]) (by simp [results, Tryz.results167, go_sem]) rfl ⟨rfl, (Below.refl _ _).alloc (Nat.le_refl _) _⟩
theorem sshapeOf_14 (w : World) : Calls Tryz.prog 167 #[.int .i64 14] w fun e w' => e = .returned (.tuple #[.agg #[.int .i64 0, .int .i64 2, .int .i64 0], .bool true]) ∧ Below w.heap.size w w' := by
 go_enter Tryz.func167, Tryz.ntmps167
 go_wp2_with fail
 exact bodyPost_ret (v := .tuple #[.agg #[.int .i64 0, .int .i64 2, .int .i64 0], .bool true]) (by simp [results, Tryz.results167, go_sem]) rfl ⟨rfl, (Below.refl _ _).alloc (Nat.le_refl _) _⟩
theorem sshapeOf_15 (w : World) : Calls Tryz.prog 167 #[.int .i64 15] w fun e w' => e = .returned (.tuple #[.agg #[.int .i64 0, .int .i64 0, .int .i64 3], .bool true]) ∧ Below w.heap.size w w' := by
 go_enter Tryz.func167, Tryz.ntmps167
 go_wp2_with fail
 exact bodyPost_ret (v := .tuple #[.agg #[.int .i64 0, .int .i64 0, .int .i64 3], .bool true]) (by simp [results, Tryz.results167, go_sem]) rfl ⟨rfl, (Below.refl _ _).alloc (Nat.le_refl _) _⟩
theorem sshapeOf_no (k : Int) (w : World) (h : shapeK k = none) : Calls Tryz.prog 167 #[.int .i64 k] w fun e w' => e = .returned (.tuple #[.agg #[.int .i64 0, .int .i64 0, .int .i64 0], .bool false]) ∧ Below w.heap.size w w' := by
 obtain ⟨e1, e2, e3, e4, e5, e6, e7, e8, e9, e10, e11, e12, e13, e14, e15⟩ := shapeK_none h
 clear h
 go_enter Tryz.func167, Tryz.ntmps167
 go_wp2_with fail
 exact bodyPost_ret (v := .tuple #[.agg #[.int .i64 0, .int .i64 0, .int .i64 0], .bool false]) (by simp [results, Tryz.results167, go_sem]) rfl ⟨rfl, (Below.refl _ _).alloc (Nat.le_refl _) _⟩
theorem sshapeOf_yes (k : Int) (nn nu ns : Nat) (w : World) (h : shapeK k = some (nn, nu, ns)) : Calls Tryz.prog 167 #[.int .i64 k] w fun e w' => e = .returned (.tuple #[.agg #[.int .i64 nn, .int .i64 nu, .int .i64 ns], .bool true]) ∧ Below w.heap.size w w' := by
 rcases shapeK_cases h with ⟨rfl, e⟩ | ⟨rfl, e⟩ | ⟨rfl, e⟩ | ⟨rfl, e⟩ | ⟨rfl, e⟩ | ⟨rfl, e⟩ | ⟨rfl, e⟩ | ⟨rfl, e⟩ | ⟨rfl, e⟩ | ⟨rfl, e⟩ | ⟨rfl, e⟩ | ⟨rfl, e⟩ | ⟨rfl, e⟩ | ⟨rfl, e⟩ | ⟨rfl, e⟩
 ·cases e; exact sshapeOf_1 w
 ·cases e; exact sshapeOf_2 w
 ·cases e; exact sshapeOf_3 w
 ·cases e; exact sshapeOf_4 w
 ·cases e; exact sshapeOf_5 w
 ·cases e; exact sshapeOf_6 w
 ·cases e; exact sshapeOf_7 w
 ·cases e; exact sshapeOf_8 w
 ·cases e; exact sshapeOf_9 w
 ·cases e; exact sshapeOf_10 w
 ·cases e; exact sshapeOf_11 w
 ·cases e; exact sshapeOf_12 w
 ·cases e; exact sshapeOf_13 w
 ·cases e; exact sshapeOf_14 w
 ·cases e; exact sshapeOf_15 w
end
section
open Go.RowKit
def rangedB (k it d : Int) : Bool :=
 if k = 1 then decide (-999999999 ≤ it) && decide (it ≤ 999999999) else
 if k = 2 then decide (it = 0) || decide (it = 1) else
 if k = 5 then decide (1 ≤ it) && decide (it ≤ 999999) else
 if k = 14 then decide (1 ≤ d) && decide (d ≤ 999999) && decide (0 ≤ it) && decide (it ≤ d) else true
end
end Go.Proofs.YtnjedgpidalioaaGreatDoor
