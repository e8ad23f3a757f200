/- LexerSeparators: for every text, list of kinds and comment the law returns true. -/
import Derived.Test.YtckkfenchjgfhaaDoorLexM
import Derived.Test.YtckkfenchjgfhaaDoorLexO
import Derived.Test.YtckkfenchjgfhaaDoorRefI
import Derived.Test.YtckkfenchjgfhaaDoorLexLaws3
import Derived.Test.YtckkfenchjgfhaaDoorLawRound
import Derived.Deep.RegionWith
namespace Go.Proofs.YtckkfenchjgfhaaDoor
open Go.RowKit

theorem lit_size (a : Array UInt8) : (ByteArray.mk a).size = a.size := rfl
theorem sepAwake1 (s cm : ByteArray) (A : Option Addr) (n c : Nat) (w : World) (h : 300 < s.size) :
    Calls Tryd.prog 6 #[.string s, .slice A n c, .string cm] w fun e w' => e = .returned (.bool true) ∧ Below w.heap.size w w' := by
  have h1 : decide (300 < (s.size : Int)) = true := by simp; omega
  go_enter Tryd.func6, Tryd.ntmps6
  go_wp2_with (first | (go_at_call 10; refine (awake_any _).mono ?_; rintro e w' ⟨rfl, hb⟩))
  go_ret
  exact ⟨rfl, hb⟩
theorem sepAwake2 (s cm : ByteArray) (A : Option Addr) (n c : Nat) (w : World) (h : s.size ≤ 300) (h2 : 40 < cm.size) :
    Calls Tryd.prog 6 #[.string s, .slice A n c, .string cm] w fun e w' => e = .returned (.bool true) ∧ Below w.heap.size w w' := by
  have d1 : decide (300 < (s.size : Int)) = false := by simp; omega
  have d2 : decide (40 < (cm.size : Int)) = true := by simp; omega
  go_enter Tryd.func6, Tryd.ntmps6
  go_wp2_with (first | (go_at_call 10; refine (awake_any _).mono ?_; rintro e w' ⟨rfl, hb⟩))
  go_ret
  exact ⟨rfl, hb⟩
theorem sepAwake3 (s cm : ByteArray) (A : Option Addr) (n c : Nat) (w : World) (h : s.size ≤ 300) (h2 : cm.size ≤ 40) (h3 : decide ((0 : Int) ≤ Lib.indexByte cm.data.toList 10) = true) :
    Calls Tryd.prog 6 #[.string s, .slice A n c, .string cm] w fun e w' => e = .returned (.bool true) ∧ Below w.heap.size w w' := by
  have d1 : decide (300 < (s.size : Int)) = false := by simp; omega
  have d2 : decide (40 < (cm.size : Int)) = false := by simp; omega
  have HC := Lib.hid (contains_one cm 10 w)
  rw [h3] at HC
  clear h3
  go_enter Tryd.func6, Tryd.ntmps6
  go_wp2_with (first | (go_at_call 18; refine (HC.out).mono ?_; rintro e w' ⟨rfl, rfl⟩) | (go_at_call 10; refine (awake_any _).mono ?_; rintro e w' ⟨rfl, hb⟩))
  go_ret
  exact ⟨rfl, hb⟩
theorem sepAwake4 (s cm : ByteArray) (A : Option Addr) (c : Nat) (w : World) (h : s.size ≤ 300) (h2 : cm.size ≤ 40) (h3 : decide ((0 : Int) ≤ Lib.indexByte cm.data.toList 10) = false) :
    Calls Tryd.prog 6 #[.string s, .slice A 0 c, .string cm] w fun e w' => e = .returned (.bool true) ∧ Below w.heap.size w w' := by
  have d1 : decide (300 < (s.size : Int)) = false := by simp; omega
  have d2 : decide (40 < (cm.size : Int)) = false := by simp; omega
  have HC := Lib.hid (contains_one cm 10 w)
  rw [h3] at HC
  clear h3
  go_enter Tryd.func6, Tryd.ntmps6
  go_wp2_with (first | (go_at_call 18; refine (HC.out).mono ?_; rintro e w' ⟨rfl, rfl⟩) | (go_at_call 10; refine (awake_any _).mono ?_; rintro e w' ⟨rfl, hb⟩))
  go_ret
  exact ⟨rfl, hb⟩
theorem mem_index {c : UInt8} : ∀ {l : List UInt8}, c ∈ l → (0 : Int) ≤ Lib.indexByte l c
  | [], h => by simp at h
  | b :: l, h => by
    unfold Lib.indexByte
    by_cases hb : (b == c) = true
    · rw [if_pos hb]; omega
    · rw [if_neg hb]
      have h1 : c ∈ l := by
        rcases List.mem_cons.1 h with e | h1
        · rw [e] at hb; simp at hb
        · exact h1
      have h2 := mem_index h1
      rw [if_neg (by simp; omega)]; omega
/-- the tokens, each with its separator -/
def sepsL (zs : Nat → Int) (n : Nat) (cm : List UInt8) (ts : List Tok) : List (List UInt8 × Tok) := ts.mapIdx (fun j t => (sepL (zs (j % n) % 4) cm, t))
theorem sepsL_len (zs : Nat → Int) (n : Nat) (cm : List UInt8) (ts : List Tok) : (sepsL zs n cm ts).length = ts.length := by simp [sepsL]
theorem sepsL_mem {zs : Nat → Int} {n : Nat} {cm : List UInt8} {ts : List Tok} {x : List UInt8 × Tok} (h : x ∈ sepsL zs n cm ts) : ∃ m, x.1 = sepL m cm ∧ x.2 ∈ ts := by
  unfold sepsL at h
  obtain ⟨j, hj, rfl⟩ := List.mem_mapIdx.1 h
  exact ⟨_, rfl, List.getElem_mem _⟩
theorem sepsL_map (zs : Nat → Int) (n : Nat) (cm : List UInt8) (ts : List Tok) : (sepsL zs n cm ts).map (fun x => kt x.2) = ts.map kt := by
  unfold sepsL
  apply List.ext_getElem
  · simp
  · intro i h1 h2; simp
theorem sepsL_take {zs : Nat → Int} {n k : Nat} {cm : List UInt8} {ts : List Tok} (h : k < ts.length) : (sepsL zs n cm ts).take (k + 1) = (sepsL zs n cm ts).take k ++ [(sepL (zs (k % n) % 4) cm, ts[k])] := by
  rw [List.take_succ_eq_append_getElem (by simpa [sepsL] using h)]
  congr 2
  simp [sepsL]
def SepRel (w2 : World) (L : List (List UInt8 × Tok)) (n : Nat) (i : Value) (wr : World) : Prop := ∃ k : Nat, k ≤ n ∧ i = .int .i64 k ∧ Below w2.heap.size w2 wr ∧ w2.heap.size < wr.heap.size ∧ Lib.IsBuilder 33 5 w2.heap.size w2.heap.size (Lib.byteCells (flatL (L.take k) [])) wr
set_option maxRecDepth 100000 in
set_option maxHeartbeats 2000000 in
theorem sepMain (s cm : ByteArray) (kb ko n c : Nat) (zs : Nat → Int) (w : World) (h : s.size ≤ 300) (h2 : cm.size ≤ 40) (h3 : decide ((0 : Int) ≤ Lib.indexByte cm.data.toList 10) = false) (hn : 0 < n) (hn2 : n ≤ 9223372036854775807) (hkb : kb < w.heap.size)
    (hz : ∀ j, j < n → w.cell? ⟨kb, ko + j, none⟩ = some (.int .u8 (zs j)) ∧ 0 ≤ zs j) :
    Calls Tryd.prog 6 #[.string s, .slice (some ⟨kb, ko, none⟩) n c, .string cm] w fun e w' => e = .returned (.bool true) ∧ Below w.heap.size w w' := by
  have d1 : decide (300 < (s.size : Int)) = false := by simp; omega
  have d2 : decide (40 < (cm.size : Int)) = false := by simp; omega
  have d3 : ((n : Int) == 0) = false := by simp; omega
  have HC := Lib.hid (contains_one cm 10 w)
  rw [h3] at HC
  have HZ := Lib.hid hz
  have H10 : Hid (∀ x ∈ cm.data.toList, x ≠ 10) := Lib.hid (fun x hx e => by
    subst e
    have := mem_index hx
    simp at h3; omega)
  clear h3 hz
  go_enter Tryd.func6, Tryd.ntmps6
  go_wp2_with (first | (go_at_call 18; refine (HC.out).mono ?_; rintro e w' ⟨rfl, rfl⟩))
  refine (scan_short s _ (by omega)).mono ?_
  rintro e w2 ⟨v1, p1, c1, rfl, hB1, hR⟩
  rcases hR with ⟨ts, hsc, rfl, rfl, ho, _, hlen⟩ | ⟨q, _, _, rfl, rfl, rfl⟩
  · have HV := Lib.hid (scan_valid hsc)
    have HTA := Lib.hid (toks_of_owns ho)
    clear ho hsc
    obtain ⟨A, cA, rfl, _, hpos⟩ := id HTA.out
    have HPOS := Lib.hid hpos
    clear hpos
    have hd : ts.length ≤ 300 := by omega
    obtain ⟨L, HL⟩ : ∃ L, Hid (L = sepsL zs n cm.data.toList ts) := ⟨_, Lib.hid rfl⟩
    go_wp2_with fail
    go_loopw [11, 12, 45] (fun _ _ i wr => SepRel w2 L ts.length i wr) (fun _ _ i _ => ts.length - (intOf i).toNat)
    case atStart => exact ⟨0, by omega, rfl, (Below.refl _ _).alloc (Nat.le_refl _) _, by simp, Lib.fresh_isBuilder _ _ _⟩
    case round =>
      obtain ⟨k, hk, rfl, hBr, hsz, hbd⟩ := hrel
      have HBD := Lib.hid hbd
      clear hbd
      by_cases hlt : k < ts.length
      · obtain ⟨b, off, rfl, hbl, hT⟩ := HPOS.out (by omega)
        obtain ⟨a0, a1, a2⟩ := (hT k hlt).below hBr hbl
        clear hT
        have hkm : k % n < n := Nat.mod_lt _ hn
        obtain ⟨z1, z2⟩ := HZ.out (k % n) hkm
        have z3 := (hBr.cell (p := ⟨kb, ko + k % n, none⟩) (by have := hB1.size; show kb < _; omega)).trans ((hB1.cell (p := ⟨kb, ko + k % n, none⟩) hkb).trans z1)
        have HTK : Hid (flatL (L.take (k + 1)) [] = flatL (L.take k) [] ++ sepL (zs (k % n) % 4) cm.data.toList ++ ts[k].text) := Lib.hid (by rw [HL.out, sepsL_take hlt, flat_snoc])
        have hkbw : kb < wr.heap.size := by have := hB1.size; omega
        clear z1
        generalize zs (k % n) = z at *
        have hfl : (flatL (L.take k) []).length ≤ 40200 := by
          have h1 := flat_len (L := L.take k) (n := 134) (fun x hx => by
            rw [HL.out] at hx
            obtain ⟨m, e1, e2⟩ := sepsL_mem (List.mem_of_mem_take hx)
            have h2 := sep_len m cm.data.toList
            have h3 := tok_short (HV.out _ e2)
            rw [e1]; rw [toList_len] at h2; omega)
          have h4 : (L.take k).length ≤ 300 := by simp; omega
          omega
        have HTs : Hid ((⟨ts[k].text.toArray⟩ : ByteArray).size = ts[k].text.length) := Lib.hid (by simp [ByteArray.size])
        have hTs : (⟨ts[k].text.toArray⟩ : ByteArray).size ≤ 90 := by rw [HTs.out]; exact tok_short (HV.out _ (List.getElem_mem _))
        have HCE : Hid (Lib.strCells ⟨ts[k].text.toArray⟩ = Lib.byteCells ts[k].text) := Lib.hid rfl
        generalize (⟨ts[k].text.toArray⟩ : ByteArray) = T at *
        generalize ts[k].kind = K at *
        generalize ts[k].pos = P at *
        cases q0 : (z % 4 == 0)
        · cases q1 : (z % 4 == 1)
          · cases q2 : (z % 4 == 2)
            · have HSEP : Hid (sepL (z % 4) cm.data.toList = ((⟨#[32, 35]⟩ ++ cm ++ ⟨#[10]⟩) : ByteArray).data.toList) := Lib.hid (by unfold sepL; rw [if_neg (by simp [q0]), if_neg (by simp [q1]), if_neg (by simp [q2])]; simp [ByteArray.data_append])
              go_wp2_with fail
              refine (writeString_any w2.heap.size w2.heap.size _ _ _ (isBuilder_alloc HBD.out _) ?_ ?_).mono ?_
              · rw [Lib.byteCells_length]; simp [lit_size]; omega
              · simp; omega
              rintro e w3 ⟨rfl, hi3, hb3, ho3⟩
              have hT3 := box_kept ho3 (by omega) (by decide)
              have HI3 := Lib.hid hi3
              have HB3 := Lib.hid hb3
              have HO3 := Lib.hid ho3
              clear hi3 hb3 ho3
              go_wp2_with fail
              refine (writeString_any w2.heap.size w2.heap.size _ T _ HI3.out (by rw [List.length_append, Lib.byteCells_length, Lib.strCells_length]; simp [lit_size]; omega) (by have := HO3.out.1; simp at this; omega)).mono ?_
              rintro e w4 ⟨rfl, hi4, hb4, ho4⟩
              have HI4 := Lib.hid hi4
              have HB4 := Lib.hid hb4
              have HO4 := Lib.hid ho4
              clear hi4 hb4 ho4
              go_wp2_with fail
              go_roundw
              case rel =>
                refine ⟨k + 1, by omega, by go_num, ((hBr.alloc hBr.size _).trans HB3.out).trans HB4.out, Nat.lt_of_lt_of_le (Nat.lt_of_lt_of_le (by simp; omega) HO3.out.1) HO4.out.1, ?_⟩
                rw [HTK.out, Lib.byteCells_append, Lib.byteCells_append, HSEP.out, ← HCE.out]; exact HI4.out
              case measure => simp [intOf]; omega
            · have HSEP : Hid (sepL (z % 4) cm.data.toList = (⟨#[32, 10, 32, 32]⟩ : ByteArray).data.toList) := Lib.hid (by unfold sepL; rw [if_neg (by simp [q0]), if_neg (by simp [q1]), if_pos q2])
              go_wp2_with fail
              refine (writeString_any w2.heap.size w2.heap.size _ _ _ (isBuilder_alloc HBD.out _) ?_ ?_).mono ?_
              · rw [Lib.byteCells_length]; simp [lit_size]; omega
              · simp; omega
              rintro e w3 ⟨rfl, hi3, hb3, ho3⟩
              have hT3 := box_kept ho3 (by omega) (by decide)
              have HI3 := Lib.hid hi3
              have HB3 := Lib.hid hb3
              have HO3 := Lib.hid ho3
              clear hi3 hb3 ho3
              go_wp2_with fail
              refine (writeString_any w2.heap.size w2.heap.size _ T _ HI3.out (by rw [List.length_append, Lib.byteCells_length, Lib.strCells_length]; simp [lit_size]; omega) (by have := HO3.out.1; simp at this; omega)).mono ?_
              rintro e w4 ⟨rfl, hi4, hb4, ho4⟩
              have HI4 := Lib.hid hi4
              have HB4 := Lib.hid hb4
              have HO4 := Lib.hid ho4
              clear hi4 hb4 ho4
              go_wp2_with fail
              go_roundw
              case rel =>
                refine ⟨k + 1, by omega, by go_num, ((hBr.alloc hBr.size _).trans HB3.out).trans HB4.out, Nat.lt_of_lt_of_le (Nat.lt_of_lt_of_le (by simp; omega) HO3.out.1) HO4.out.1, ?_⟩
                rw [HTK.out, Lib.byteCells_append, Lib.byteCells_append, HSEP.out, ← HCE.out]; exact HI4.out
              case measure => simp [intOf]; omega
          · have HSEP : Hid (sepL (z % 4) cm.data.toList = (⟨#[10]⟩ : ByteArray).data.toList) := Lib.hid (by unfold sepL; rw [if_neg (by simp [q0]), if_pos q1])
            go_wp2_with fail
            refine (writeString_any w2.heap.size w2.heap.size _ _ _ (isBuilder_alloc HBD.out _) ?_ ?_).mono ?_
            · rw [Lib.byteCells_length]; simp [lit_size]; omega
            · simp; omega
            rintro e w3 ⟨rfl, hi3, hb3, ho3⟩
            have hT3 := box_kept ho3 (by omega) (by decide)
            have HI3 := Lib.hid hi3
            have HB3 := Lib.hid hb3
            have HO3 := Lib.hid ho3
            clear hi3 hb3 ho3
            go_wp2_with fail
            refine (writeString_any w2.heap.size w2.heap.size _ T _ HI3.out (by rw [List.length_append, Lib.byteCells_length, Lib.strCells_length]; simp [lit_size]; omega) (by have := HO3.out.1; simp at this; omega)).mono ?_
            rintro e w4 ⟨rfl, hi4, hb4, ho4⟩
            have HI4 := Lib.hid hi4
            have HB4 := Lib.hid hb4
            have HO4 := Lib.hid ho4
            clear hi4 hb4 ho4
            go_wp2_with fail
            go_roundw
            case rel =>
              refine ⟨k + 1, by omega, by go_num, ((hBr.alloc hBr.size _).trans HB3.out).trans HB4.out, Nat.lt_of_lt_of_le (Nat.lt_of_lt_of_le (by simp; omega) HO3.out.1) HO4.out.1, ?_⟩
              rw [HTK.out, Lib.byteCells_append, Lib.byteCells_append, HSEP.out, ← HCE.out]; exact HI4.out
            case measure => simp [intOf]; omega
        · have HSEP : Hid (sepL (z % 4) cm.data.toList = (⟨#[32]⟩ : ByteArray).data.toList) := Lib.hid (by unfold sepL; rw [if_pos q0])
          go_wp2_with fail
          refine (writeString_any w2.heap.size w2.heap.size _ _ _ (isBuilder_alloc HBD.out _) ?_ ?_).mono ?_
          · rw [Lib.byteCells_length]; simp [lit_size]; omega
          · simp; omega
          rintro e w3 ⟨rfl, hi3, hb3, ho3⟩
          have hT3 := box_kept ho3 (by omega) (by decide)
          have HI3 := Lib.hid hi3
          have HB3 := Lib.hid hb3
          have HO3 := Lib.hid ho3
          clear hi3 hb3 ho3
          go_wp2_with fail
          refine (writeString_any w2.heap.size w2.heap.size _ T _ HI3.out (by rw [List.length_append, Lib.byteCells_length, Lib.strCells_length]; simp [lit_size]; omega) (by have := HO3.out.1; simp at this; omega)).mono ?_
          rintro e w4 ⟨rfl, hi4, hb4, ho4⟩
          have HI4 := Lib.hid hi4
          have HB4 := Lib.hid hb4
          have HO4 := Lib.hid ho4
          clear hi4 hb4 ho4
          go_wp2_with fail
          go_roundw
          case rel =>
            refine ⟨k + 1, by omega, by go_num, ((hBr.alloc hBr.size _).trans HB3.out).trans HB4.out, Nat.lt_of_lt_of_le (Nat.lt_of_lt_of_le (by simp; omega) HO3.out.1) HO4.out.1, ?_⟩
            rw [HTK.out, Lib.byteCells_append, Lib.byteCells_append, HSEP.out, ← HCE.out]; exact HI4.out
          case measure => simp [intOf]; omega
      · obtain rfl : k = ts.length := by omega
        have HLT : Hid (L.take ts.length = L) := Lib.hid (List.take_of_length_le (by rw [HL.out, sepsL_len]; exact Nat.le_refl _))
        rw [HLT.out] at HBD
        obtain ⟨ms, hms, hkt⟩ := sep_pure (L := L) (cm := cm.data.toList) (fun x hx => by
            rw [HL.out] at hx
            obtain ⟨m, e1, e2⟩ := sepsL_mem hx
            rw [e1]; exact ⟨skips_sep m H10.out, HV.out _ e2⟩)
          (fun x hx => by
            rw [HL.out] at hx
            obtain ⟨m, e1, e2⟩ := sepsL_mem hx
            rw [e1]; exact sep_head m _) H10.out
        have hkt2 : ms.map kt = ts.map kt := by rw [hkt, HL.out, sepsL_map]
        have hfl : (flatL L []).length ≤ 40200 := by
          have h1 := flat_len (L := L) (n := 134) (fun x hx => by
            rw [HL.out] at hx
            obtain ⟨m, e1, e2⟩ := sepsL_mem hx
            have h2 := sep_len m cm.data.toList
            have h3 := tok_short (HV.out _ e2)
            rw [e1]; rw [toList_len] at h2; omega)
          have h4 : L.length ≤ 300 := by rw [HL.out, sepsL_len]; exact hd
          omega
        obtain ⟨J, HJ⟩ : ∃ J : ByteArray, Hid (J = (⟨(flatL L []).toArray⟩ ++ ⟨#[10, 35]⟩ ++ cm : ByteArray)) := ⟨_, Lib.hid rfl⟩
        have HJl : Hid (J.data.toList = flatL L (10 :: 35 :: cm.data.toList)) := Lib.hid (by rw [HJ.out]; simp [ByteArray.data_append]; exact (flat_end L _).symm)
        have HJs : Hid (J.size ≤ 65536) := Lib.hid (by rw [HJ.out]; simp [lit_size]; omega)
        have HMS := Lib.hid hms
        have HKT := Lib.hid hkt2
        clear hms hkt hkt2
        have hlf : (⟨(flatL L []).toArray⟩ : ByteArray).size ≤ 40200 := by simp [lit_size]; omega
        have HSt : Hid (Calls Tryd.prog 20 #[.pointer (some ⟨w2.heap.size, 0, none⟩)] wr fun e w' => e = .returned (.string ⟨(flatL L []).toArray⟩) ∧ Below w2.heap.size wr w') := Lib.hid (Tryd.Builder_String_any w2.heap.size w2.heap.size _ _ HBD.out (by omega))
        generalize (⟨(flatL L []).toArray⟩ : ByteArray) = F at *
        go_wp2_with (first | (go_at_call 20; refine (HSt.out).mono ?_; rintro e w3 ⟨rfl, hb3⟩; have HB3 := Lib.hid hb3; clear hb3))
        rw [← HJ.out]
        refine (scan_short J _ HJs.out).mono ?_
        rintro e w4 ⟨v2, p2, c2, rfl, hb4, hR⟩
        rcases hR with ⟨ts2, hq, rfl, rfl, ho, _, _⟩ | ⟨q, hq, _⟩
        · obtain rfl : ts2 = ms := by rw [HJl.out, HMS.out] at hq; exact (Prod.mk.inj hq).1.symm
          have HB24 := Lib.hid ((hBr.trans HB3.out).trans (hb4.mono (Nat.le_trans hBr.size HB3.out.size)))
          obtain ⟨hl, hk2⟩ := kt_at HKT.out.symm
          have HQ := Lib.hid (rSame_yes (by omega) (HTA.out.below HB24.out) (toks_of_owns ho) hl hk2)
          obtain ⟨B, d, rfl, _, _⟩ := toks_of_owns ho
          clear ho hq hb4 hl hk2
          go_wp2_with (first
            | (go_at_call 21; refine (HQ.out).mono ?_; rintro e w5 ⟨rfl, n', rfl⟩)
            | (go_at_call 10; refine (awake_any _).mono ?_; rintro e w6 ⟨rfl, hb⟩))
          go_ret
          have h5 := hB1.trans (HB24.out.mono hB1.size)
          exact ⟨rfl, (below_drewN h5 n').trans (hb.mono h5.size)⟩
        · rw [HJl.out, HMS.out] at hq; simp at hq
  · go_wp2_with (first | (go_at_call 10; refine (awake_any _).mono ?_; rintro e w' ⟨rfl, hb⟩))
    go_ret
    exact ⟨rfl, hB1.trans (hb.mono hB1.size)⟩
/-- a slice of bytes in memory -/
def BytesAt (w : World) (v : Value) : Prop := ∃ (A : Option Addr) (n c : Nat), v = .slice A n c ∧ n ≤ 9223372036854775807 ∧ (0 < n → ∃ (b off : Nat) (zs : Nat → Int), A = some ⟨b, off, none⟩ ∧ b < w.heap.size ∧ ∀ j, j < n → w.cell? ⟨b, off + j, none⟩ = some (.int .u8 (zs j)) ∧ 0 ≤ zs j)
theorem lawSep_any (s cm : ByteArray) {v : Value} {w : World} (h : BytesAt w v) :
    Calls Tryd.prog 6 #[.string s, v, .string cm] w fun e w' => e = .returned (.bool true) ∧ Below w.heap.size w w' := by
  obtain ⟨A, n, c, rfl, hn, hp⟩ := h
  rcases Nat.lt_or_ge 300 s.size with h1 | h1
  · exact sepAwake1 s cm A n c w h1
  · rcases Nat.lt_or_ge 40 cm.size with h2 | h2
    · exact sepAwake2 s cm A n c w h1 h2
    · cases h3 : decide ((0 : Int) ≤ Lib.indexByte cm.data.toList 10)
      · rcases Nat.eq_zero_or_pos n with h0 | h0
        · subst h0; exact sepAwake4 s cm A c w h1 h2 h3
        · obtain ⟨b, off, zs, rfl, hb, hz⟩ := hp h0
          exact sepMain s cm b off n c zs w h1 h2 h3 h0 hn hb hz
      · exact sepAwake3 s cm A n c w h1 h2 h3
end Go.Proofs.YtckkfenchjgfhaaDoor
