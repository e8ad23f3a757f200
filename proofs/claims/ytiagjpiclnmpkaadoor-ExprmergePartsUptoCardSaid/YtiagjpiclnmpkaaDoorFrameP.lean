/- Three expressions in one struct that come in. -/
import Derived.Test.YtiagjpiclnmpkaaDoorFrameX
import Derived.Test.YtiagjpiclnmpkaaDoorStM
namespace Go.Proofs.YtiagjpiclnmpkaaDoor
open Go.ChangeShapes Go.WideShapes Go.Deep Go.RowKit
variable {H : Type} {enc : TypeId × Value → H} {W : World} {base : Nat} {spare : Nat → Bool} {held : Bool}
theorem cellsParts : Tryd.prog.cellsOf 35 = 18 := by kernel_rfl
theorem three' {α : Type} {cs : List α} (h : cs.length = 3) : ∃ c0 c1 c2, cs = [c0, c1, c2] := by
  match cs, h with
  | [c0, c1, c2], _ => exact ⟨c0, c1, c2, rfl⟩
theorem open_parts {fuel : Nat} {cs : List Value} {x : DataW H × List MemPlace} (h : DataW.trod enc Tryd.prog W base spare held fuel 35 cs = some x) (hlt : ∀ p ∈ x.2, p.block < W.heap.size) :
    ∃ (a b c : Ex) (xa xb xc : XV), cs = xa.arr.toList ++ xb.arr.toList ++ xc.arr.toList ∧ XAt W a xa ∧ XAt W b xb ∧ XAt W c xc ∧ nodesE a + nodesE b + nodesE c ≤ Rows.uptoBulk x.1 := by
  obtain ⟨xs, n, _, hx, hlen, hxl, hf⟩ := DataW.trod_struct Tryd.underlying35 h
  rw [cellsParts] at hlen
  obtain ⟨y0, y1, y2, rfl⟩ := three' hxl
  have t0 : DataW.trod enc Tryd.prog W base spare held n 24 ((cs.drop 0).take (Tryd.prog.cellsOf 24)) = some y0 := hf 0 _ rfl
  have t1 : DataW.trod enc Tryd.prog W base spare held n 24 ((cs.drop 6).take (Tryd.prog.cellsOf 24)) = some y1 := hf 1 _ rfl
  have t2 : DataW.trod enc Tryd.prog W base spare held n 24 ((cs.drop 12).take (Tryd.prog.cellsOf 24)) = some y2 := hf 2 _ rfl
  rw [cellsEx] at t0 t1 t2
  subst hx
  obtain ⟨a, xa, ha, hxa, hna⟩ := open_ex (Rows.uptoBulk y0.1) n _ y0 (Nat.le_refl _) t0 (fun p hp => hlt p (by simp [hp]))
  obtain ⟨b, xb, hb, hxb, hnb⟩ := open_ex (Rows.uptoBulk y1.1) n _ y1 (Nat.le_refl _) t1 (fun p hp => hlt p (by simp [hp]))
  obtain ⟨c, xc, hc, hxc, hnc⟩ := open_ex (Rows.uptoBulk y2.1) n _ y2 (Nat.le_refl _) t2 (fun p hp => hlt p (by simp [hp]))
  refine ⟨a, b, c, xa, xb, xc, ?_, hxa, hxb, hxc, ?_⟩
  · rw [← ha, ← hb, ← hc]
    have e1 : (cs.drop 12).take 6 = cs.drop 12 := List.take_of_length_le (by simp; omega)
    have e2 : (cs.drop 6).take 6 ++ cs.drop 12 = cs.drop 6 := by
      have := List.take_append_drop 6 (cs.drop 6)
      rw [List.drop_drop] at this
      exact this
    rw [e1, List.append_assoc, e2, List.drop_zero, List.take_append_drop]
  · simp only [List.map_cons, List.map_nil, Rows.uptoBulk, Rows.uptoBulkAll]
    omega
theorem has_app {P : AV → Value → Prop} {l1 l2 : List AV} {v1 v2 : List Value} (h1 : l1.length = v1.length ∧ ∀ i (hi : i < l1.length) (hv : i < v1.length), P l1[i] v1[i]) (h2 : l2.length = v2.length ∧ ∀ i (hi : i < l2.length) (hv : i < v2.length), P l2[i] v2[i]) :
    (l1 ++ l2).length = (v1 ++ v2).length ∧ ∀ i (hi : i < (l1 ++ l2).length) (hv : i < (v1 ++ v2).length), P (l1 ++ l2)[i] (v1 ++ v2)[i] := by
  refine ⟨by rw [List.length_append, List.length_append, h1.1, h2.1], fun i hi hv => ?_⟩
  have hl := h1.1
  rw [List.getElem_append, List.getElem_append]
  by_cases h : i < l1.length
  · have h' : i < v1.length := by omega
    rw [dif_pos h, dif_pos h']
    exact h1.2 i h h'
  · have h' : ¬ i < v1.length := by omega
    rw [dif_neg h, dif_neg h']
    have hi2 : i - l1.length < l2.length := by rw [List.length_append] at hi; omega
    have hi3 : i - v1.length < v2.length := by rw [List.length_append] at hv; omega
    have := h2.2 (i - l1.length) hi2 (by omega)
    simp only [hl] at this ⊢
    exact this
theorem parts_hasC {w : World} {a b c : Ex} {xa xb xc : XV} (ha : XAt w a xa) (hb : XAt w b xb) (hc : XAt w c xc) : HasC w (fun b _ => b < w.heap.size) (avP a b c) (.agg (xa.arr.toList ++ xb.arr.toList ++ xc.arr.toList).toArray) := by
  have cells : ∀ {t : Ex} {x : XV}, XAt w t x → (cellsE t).length = x.arr.toList.length ∧ ∀ i (hi : i < (cellsE t).length) (hv : i < x.arr.toList.length), HasC w (fun b _ => b < w.heap.size) (cellsE t)[i] x.arr.toList[i] := fun {t x} h => by
    have h1 := xAt_avE h
    rw [avE_eq] at h1
    unfold HasC at h1
    obtain ⟨vs, he, hl, hh⟩ := h1.agg_eq
    have e : vs = x.arr.toList := by
      injection he with he
      rw [he]
    subst e
    exact ⟨hl, hh⟩
  obtain ⟨h1, h2⟩ := has_app (has_app (cells ha) (cells hb)) (cells hc)
  exact .agg _ _ h1 h2
theorem lawParts_x {xb xl xr yb yl yr : Ex} {vb vl vr ub ul ur : XV} {w : World} (h1 : XAt w xb vb) (h2 : XAt w xl vl) (h3 : XAt w xr vr) (h4 : XAt w yb ub) (h5 : XAt w yl ul) (h6 : XAt w yr ur) (k : Nat) (hk : k < 256)
    (hsz : nodesE xb + nodesE xl + nodesE xr + (nodesE yb + nodesE yl + nodesE yr) ≤ 1048576) :
    Calls Tryd.prog 6 #[.agg (vb.arr.toList ++ vl.arr.toList ++ vr.arr.toList).toArray, .agg (ub.arr.toList ++ ul.arr.toList ++ ur.arr.toList).toArray, .int .u8 k] w fun e w' => e = .returned (.bool true) ∧ Below w.heap.size w w' := by
  have hc := lawParts_c xb xl xr yb yl yr k (by omega) (by omega) (by simp only [nodesL]; omega)
  refine (hc.2.2 (fun b _ => b < w.heap.size) w [.agg (vb.arr.toList ++ vl.arr.toList ++ vr.arr.toList).toArray, .agg (ub.arr.toList ++ ul.arr.toList ++ ur.arr.toList).toArray, .int .u8 k] (fun _ _ h => h) rfl fun i hi hv => ?_).mono ?_
  · match i, hi with
    | 0, _ => exact parts_hasC h1 h2 h3
    | 1, _ => exact parts_hasC h4 h5 h6
    | 2, _ => exact .d (.raw _)
  · rintro e w' ⟨v, rfl, hv, hb⟩
    exact ⟨by rw [hv.raw_eq], hb⟩
end Go.Proofs.YtiagjpiclnmpkaaDoor
