/- Texts of this proof, part 15: what the proof uses of them. -/
import Derived.Test.YtnnolijagpakiaaGreatDoorRows
import Derived.Test.YtnnolijagpakiaaGreatDoorVag
import Derived.Deep.Slices
import Derived.Carry
import Derived.Test.YtnnolijagpakiaaGreatDoorVan
import Derived.Test.YtnnolijagpakiaaGreatDoorCards
import Derived.Test.YtnnolijagpakiaaGreatDoorTie
import Derived.WalkKit
import Derived.ProofKit
import Derived.OpenShut
import Derived.Deep.DeepHandedRow
import Derived.Lib.LaidTab
import Derived.Below
import Derived.ChangeSame
import Derived.Stop.LaidErr
import Derived.MakeChecks
import Derived.ShapedOpen
import Derived.Test.YtnnolijagpakiaaGreatDoorVam
namespace Go.Proofs.YtnnolijagpakiaaGreatDoor
section
open Go Go.ChangeShapes Go.WideShapes Go.Deep Go.RowKit
section
variable {H : Type} {enc : TypeId × Value → H} {P : Program} {W : World} {base : Nat} {spare : Nat → Bool} {held : Bool}
abbrev below (W : World) : Nat → Nat → Prop := fun b _ => b < W.heap.size
end
end
section
open Go Go.RowKit
end
section
open Go Go.RowKit
end
section
open Go.ChangeShapes Go.WideShapes Go.ChangeAt Go.RowKit
section
variable {H : Type} {enc : TypeId × Value → H} {P : Program}
theorem post_of_below {f : Func} {s : ChangeSpec} {apart fresh handsOn again : Bool} {W W' : World} {args : Array Value} {v : Value} {ds gs : List (DataW H)} {before pa pv : List MemPlace}
  (hW : DataW.Whole enc P f.params.toList s.vars apart W args.toList ds gs before)
  (hres : ∀ (b : Nat) (sp : Nat → Bool) (hd : Bool), DataW.TrodAll enc P W' b sp hd f.resultTypes.toList (v.resultList f.resultTypes.size) (s.fn H (ds ++ gs)).results [])
  (hargs : ∀ sp : Nat → Bool, (∀ p ∈ before, sp p.block = true) → DataW.TrodAll enc P W' 0 sp true f.params.toList args.toList (s.fn H (ds ++ gs)).args pa)
  (hvars : ∀ sp : Nat → Bool, (∀ p ∈ before, sp p.block = true) → DataW.TrodVars enc P W' sp s.vars (s.fn H (ds ++ gs)).vars pv)
  (hps : before = pa ++ pv) (hb : Below W.heap.size W W')
  (hok : ∀ (j : Nat) (t : TypeId) (r : Value), f.resultTypes[j]? = some t → (v.resultList f.resultTypes.size)[j]? = some r → Value.okWide P W' .any 0 t r) :
  s.post enc P f apart fresh handsOn again W args v W' := by
 have hlt : ∀ p ∈ before, p.block < W.heap.size := fun p hp => hW.lt p hp
 have hold : ∀ p ∈ before, (fun b => decide (b < W.heap.size)) p.block = true := fun p hp => by simpa using hlt p hp
 refine ⟨ds, gs, before, [], pa, pv, hW, hres _ _ _, hargs _ hold, hvars _ hold, World.keptBut_mono (fun p hp => ⟨hp, ?_⟩) (hb.frame (· ∈ before)), fun _ => ?_⟩
 ·rw [hps, List.mem_append] at hp
  exact Or.inr hp
 ·obtain ⟨_, _, _, _, _, hz, hn⟩ := hW
  refine ⟨hok, _, _, ([] ++ pa) ++ pv, ⟨[] ++ pa, pv, trodAll_append (hargs _ (fun _ _ => rfl)) (hres _ _ _), hvars _ (fun _ _ => rfl), rfl, ?_, ?_⟩, ?_⟩
  ·intro b off hp
   have hin : MemPlace.cell b off ∈ before := by rw [hps]; simpa using hp
   rw [hb.frozen (hlt _ hin)]
   exact hz b off hin
  ·intro ha
   have := hn ha
   rw [hps] at this
   simpa using this
  ·intro p hp _
   rw [hps]
   simpa using hp
end
theorem own : ownKnob Tryz.prog.godebug = none := by kernel_rfl
mutual
/-- the cells of a datum of numbers -/
def dataCells : DataW Unit → List Value
 | .lit (.int k n) => [.int k n]
 | .agg l => dataCellsL l
 | _ => []
def dataCellsL : List (DataW Unit) → List Value
 | [] => []
 | d :: l => dataCells d ++ dataCellsL l
end
def putCells (cs : Array Value) : Obj → Obj
 | .cells _ t frozen => .cells cs t frozen
 | o => o
def tables : List (Nat × DataW Unit) := [(6, Rows.laid_math_bits_deBruijn32tab), (7, Rows.laid_math_bits_deBruijn64tab), (3, Rows.laid_internal_strconv_uint64pow10), (5, Rows.laid_unicode_utf8_acceptRanges), (4, Rows.laid_unicode_utf8_first)]
abbrev txRange : ByteArray := ⟨#[118, 97, 108, 117, 101, 32, 111, 117, 116, 32, 111, 102, 32, 114, 97, 110, 103, 101]⟩
abbrev txSyntax : ByteArray := ⟨#[105, 110, 118, 97, 108, 105, 100, 32, 115, 121, 110, 116, 97, 120]⟩
noncomputable def lowN : Nat := (World.holding Tryz.prog default ⟨#[], #[], []⟩).heap.size
noncomputable def errCells (k : Nat) : Array Value := #[.iface 219 (.pointer (some ⟨lowN + k, 0, none⟩))]
noncomputable def heldWorld (os : Os) : World := World.holding Tryz.prog os ⟨#[.cells #[.string txRange] 221, .cells #[.string txSyntax] 221], #[], []⟩
noncomputable def laidWorld (os : Os) : World :=
 { heldWorld os with heap := ((tables.foldl (fun h x => h.modify x.1 (putCells (dataCells x.2).toArray)) (heldWorld os).heap).modify 2 (putCells (errCells 0))).modify 1 (putCells (errCells 1)) }
def laid7 : List (String × DataW Unit) := [("math/bits.deBruijn32tab", Rows.laid_math_bits_deBruijn32tab), ("math/bits.deBruijn64tab", Rows.laid_math_bits_deBruijn64tab), ("internal/strconv.uint64pow10", Rows.laid_internal_strconv_uint64pow10), ("unicode/utf8.acceptRanges", Rows.laid_unicode_utf8_acceptRanges), ("strconv.ErrRange", Rows.laid_strconv_ErrRange), ("strconv.ErrSyntax", Rows.laid_strconv_ErrSyntax), ("unicode/utf8.first", Rows.laid_unicode_utf8_first)]
theorem int_of_shape {P : Program} {w : World} {g : Nat} {t : TypeId} {zero : Array Value} (h : w.ShapedOpen P) (hg : g < P.globals.size)
  (h0 : ((begin P (fun _ _ => 0) default).world.heap[g]?).bind Obj.row? = some (zero, t)) (hz : zero.size = 1)
  (hb : P.buildable t = true) (hc : P.cellTypes P.depth t = some [t]) (hu : P.underlying t = some (.int .i64)) : ∃ m, w.cell? ⟨g, 0, none⟩ = some (.int .i64 m) := by
 obtain ⟨cs, hh, hs, hr⟩ := h.1 g zero t hg h0
 obtain ⟨ts, hts, _, hall⟩ := hr hb
 rw [hc] at hts
 cases hts
 have h1 : 0 < cs.size := by omega
 obtain ⟨u, hu', hok⟩ := hall 0 cs[0] (by simp [h1])
 have : u = t := by simpa using hu'.symm
 subst this
 have key : ∃ m, cs[0] = .int .i64 m := by
  revert hok
  cases cs[0] <;> simp [Cell.ok, hu]
  exact fun h _ => h
 obtain ⟨m, hm⟩ := key
 exact ⟨m, by simp [World.cell?, hh, h1, hm]⟩
theorem glob_of {W : World} (h : laidMetH Tryz.prog laid7 W) (hs : W.ShapedOpen Tryz.prog) : Glob Tryz.prog W := by
 rw [Go.MakeChecks.laidMetH_plain _ _ _ (by kernel_rfl)] at h
 refine ⟨?_, fun g _ => ?_, fun g hg => ?_⟩
 ·have hx : (((begin Tryz.prog (fun _ _ => 0) default).world.heap[7]?).bind Obj.row?).isSome = true := by kernel_rfl
  obtain ⟨⟨zero, t⟩, h0⟩ := Option.isSome_iff_exists.1 hx
  obtain ⟨cs, h1, _⟩ := hs.1 7 zero t (of_decide_eq_true (by kernel_rfl)) h0
  have h2 := (Array.getElem?_eq_some_iff.1 h1).1
  have h3 : Tryz.prog.globals.size = 8 := by kernel_rfl
  omega
 ·exact Lib.tabIs_of_head (g := 3) (t := 207) (e := 193) (n := 20) (by kernel_rfl) (by kernel_rfl) (by kernel_rfl) (by kernel_rfl) (by kernel_rfl) (by kernel_rfl) h.tail.tail
 ·obtain rfl : g = 0 := (Option.some.inj ((show Tryz.prog.globalNamed "internal/bytealg.MaxLen" = some 0 by kernel_rfl).symm.trans hg)).symm
  exact int_of_shape hs (t := 3) (zero := #[.int .i64 0]) (of_decide_eq_true (by kernel_rfl)) (by kernel_rfl) (by kernel_rfl) (by kernel_rfl) (by kernel_rfl) (by kernel_rfl)
section
variable {H : Type} {enc : TypeId × Value → H} {W : World} {base : Nat} {spare : Nat → Bool} {held : Bool}
set_option maxRecDepth 100000 in
theorem in_str {v : Value} {d : DataW H} {p : List MemPlace} (hval : Value.okWide Tryz.prog W .any base 9 v) (h : DataW.Trod enc Tryz.prog W 0 (fun _ => true) true 9 v d p) : ∃ s : ByteArray, HasC W (below W) (.d (.raw (.string s))) v ∧ s.size ≤ Rows.uptoBulk d := by
 obtain ⟨fuel, hf⟩ := h
 obtain ⟨s, hc, hd, _⟩ := DataW.trod_string Tryz.underlying9 hf
 have hv : v = .string s := by
  obtain ⟨s', rfl⟩ := okWide_string Tryz.underlying9 hval
  simpa [Value.cells] using hc
 subst hv
 refine ⟨s, .d (.raw _), ?_⟩
 have : d = .lit (.string s.data.toList) := congrArg Prod.fst hd
 subst this
 have : s.data.toList.length = s.size := rfl
 simp only [Rows.uptoBulk]
 omega
end
theorem law_calls {f : FuncId} {args : List AV} {vs : List Value} {W : World} (hc : Con Tryz.prog f args (.d (.raw (.bool true)))) (hg : Glob Tryz.prog W) (hl : args.length = vs.length) (hv : ∀ i (hi : i < args.length) (hv : i < vs.length), HasC W (below W) args[i] vs[i]) :
  Calls Tryz.prog f vs.toArray W fun e W' => e = .returned (.bool true) ∧ Below W.heap.size W W' := by
 refine (hc.2.2 (below W) W vs (fun _ _ h => h) hg hl hv).mono ?_
 rintro e w' ⟨v, rfl, hv, hb⟩
 exact ⟨by rw [hv.raw_eq], hb⟩
end
section
open Go Go.RowKit
structure OkD (x : Dc) : Prop where
 id : 0 ≤ x.id ∧ x.id ≤ 999999
 kind : 1 ≤ x.kind ∧ x.kind ≤ 3
 len : x.names.length = 1 ∨ x.names.length = 3
 nm : ∀ s ∈ x.names, nameB s = true ∨ (x.names.length = 3 ∧ s = ⟨#[]⟩)
 chk : checkX x.body = 0
 ref : kindsE 5 x.body = false
theorem sdecl_ok {x : Dc} (h : sdeclX x = 0) : OkD x := by
 unfold sdeclX at h
 split at h
 ·exact absurd h (by decide)
 rename_i h1
 split at h
 ·exact absurd h (by decide)
 rename_i h2
 split at h
 ·rename_i h3; exact absurd h h3
 rename_i h3
 split at h
 ·rename_i h4; exact absurd h h4
 rename_i h4
 split at h
 ·exact absurd h (by decide)
 rename_i h5
 have h3 : namesX x.names = 0 := Decidable.of_not_not h3
 unfold namesX at h3
 split at h3
 ·exact absurd h3 (by decide)
 rename_i h6
 split at h3
 ·exact absurd h3 (by decide)
 rename_i h7
 refine ⟨by omega, by omega, by omega, fun s hs => ?_, Decidable.of_not_not h4, by simpa using h5⟩
 have h8 : badName x.names s = false := by
  cases hb : badName x.names s with
  | false => rfl
  | true => exact absurd (List.any_eq_true.2 ⟨s, hs, hb⟩) h7
 unfold badName at h8
 cases hn : nameB s with
 | true => exact .inl rfl
 | false =>
  simp only [hn, Bool.not_false, Bool.true_and, Bool.or_eq_false_iff, decide_eq_false_iff_not, Decidable.not_not] at h8
  exact .inr ⟨by omega, h8.2⟩
theorem firstN_zero {f : Nat → Int} : ∀ {n : Nat}, firstN f n = 0 → ∀ i, i < n → f i = 0
 | 0, _, i, hi => by omega
 | n + 1, h, i, hi => by
  rw [firstN] at h
  split at h
  ·rename_i h0
   by_cases e : i = n
   ·subst e; exact h
   ·exact firstN_zero h0 i (by omega)
  ·rename_i h0; exact absurd h h0
structure OkSr (x : Sr) : Prop where
 uses : x.uses.length ≤ 20
 lab : ∀ s ∈ x.uses, labelL s.data.toList = true
 decls : x.decls.length ≤ 100
 dec : ∀ d ∈ x.decls, OkD d
theorem src_ok {x : Sr} (h : srcX sdeclX x = 0) : OkSr x := by
 unfold srcX at h
 split at h
 ·exact absurd h (by decide)
 rename_i h1
 split at h
 ·rename_i h2; exact absurd h h2
 rename_i h2
 split at h
 ·exact absurd h (by decide)
 rename_i h3
 have h2 : firstN (useE x.uses) x.uses.length = 0 := Decidable.of_not_not h2
 refine ⟨by omega, fun s hs => ?_, by omega, fun d hd => ?_⟩
 ·obtain ⟨i, hi, rfl⟩ := List.getElem_of_mem hs
  have h4 := firstN_zero h2 i hi
  unfold useE at h4
  rw [atB_get x.uses i hi] at h4
  split at h4
  ·rename_i h5; exact h5
  ·exact absurd h4 (by decide)
 ·obtain ⟨i, hi, rfl⟩ := List.getElem_of_mem hd
  have h4 := firstN_zero h i hi
  unfold declE at h4
  rw [atD_get x.decls i hi] at h4
  split at h4
  ·rename_i h5; exact absurd h4 h5
  ·rename_i h5; exact sdecl_ok (Decidable.of_not_not h5)
end
section
open Go Go.RowKit
end
section
open Go Go.RowKit
end
section
open Go Go.RowKit
abbrev KT := Int × List UInt8
abbrev wd (s : List UInt8) : KT := (1, s)
abbrev sg (s : List UInt8) : KT := (4, s)
def wFun : List UInt8 := [102, 117, 110]
def wLet : List UInt8 := [108, 101, 116]
def wIn : List UInt8 := [105, 110]
def wIf : List UInt8 := [105, 102]
def wThen : List UInt8 := [116, 104, 101, 110]
def wElse : List UInt8 := [101, 108, 115, 101]
def wCase : List UInt8 := [99, 97, 115, 101]
def wOf : List UInt8 := [111, 102]
def wNil : List UInt8 := [110, 105, 108]
def wChance : List UInt8 := [99, 104, 97, 110, 99, 101]
def wConflict : List UInt8 := [99, 111, 110, 102, 108, 105, 99, 116]
def wTrue : List UInt8 := [116, 114, 117, 101]
def wFalse : List UInt8 := [102, 97, 108, 115, 101]
end
section
open Go Go.RowKit
def valD (l : List UInt8) : Nat := l.foldl (fun a c => 10 * a + (c.toNat - 48)) 0
def numV (l : List UInt8) : Int := if l.head? = some 45 then -(valD l.tail : Int) else valD l
abbrev tx (t : Ex) : List UInt8 := (txE t).data.toList
theorem op_sign {n : ByteArray} (h : hasB opNames n = true) : ∃ c : UInt8, n = ⟨#[c]⟩ ∧ (c = 43 ∨ c = 45 ∨ c = 42 ∨ c = 61 ∨ c = 60) ∧ (0 : Int) ≤ Lib.indexByte onesL c := by
 simp only [hasB, opNames, List.any_cons, List.any_nil, Bool.or_false, Bool.or_eq_true, decide_eq_true_eq] at h
 rcases h with rfl | rfl | rfl | rfl | rfl
 ·exact ⟨43, rfl, by simp, by decide⟩
 ·exact ⟨45, rfl, by simp, by decide⟩
 ·exact ⟨42, rfl, by simp, by decide⟩
 ·exact ⟨61, rfl, by simp, by decide⟩
 ·exact ⟨60, rfl, by simp, by decide⟩
end
section
open Go Go.RowKit
abbrev PR (α : Type) := Option α × List KT
def PR.bind {α β : Type} (a : PR α) (f : α → List KT → PR β) : PR β :=
 match a with
 | (some x, r) => f x r
 | (none, r) => (none, r)
@[simp] theorem PR.bind_some {α β : Type} (x : α) (r : List KT) (f : α → List KT → PR β) : PR.bind (some x, r) f = f x r := rfl
abbrev bsL (l : List UInt8) : ByteArray := ⟨l.toArray⟩
def nameT (y : KT) : Bool := decide (y.1 = 1) && nameB (bsL y.2)
def numT (y : KT) : Bool := decide (y.1 = 3) && numberL y.2
def eatT (x : KT) : List KT → PR Unit
 | [] => (none, [])
 | y :: r => if y = x then (some (), r) else (none, y :: r)
def pName : List KT → PR ByteArray
 | [] => (none, [])
 | y :: r => if nameT y then (some (bsL y.2), r) else (none, y :: r)
def pNum : List KT → PR Int
 | [] => (none, [])
 | y :: r => if numT y then (some (numV y.2), r) else (none, y :: r)
def pDot (n : ByteArray) : List KT → PR Ex
 | [] => (some (.mk 3 n ⟨#[]⟩ 0 0 []), [])
 | z :: r => if z = sg [46] then (pName r).bind fun m r => (some (.mk 4 n m 0 0 []), r) else (some (.mk 3 n ⟨#[]⟩ 0 0 []), z :: r)
def pLeaf : List KT → PR Ex
 | [] => (none, [])
 | y :: r =>
  if numT y then (some (.mk 1 ⟨#[]⟩ ⟨#[]⟩ (numV y.2) 0 []), r)
  else if y = wd wTrue then (some (.mk 2 ⟨#[]⟩ ⟨#[]⟩ 1 0 []), r)
  else if y = wd wFalse then (some (.mk 2 ⟨#[]⟩ ⟨#[]⟩ 0 0 []), r)
  else if y = wd wNil then (some (.mk 11 ⟨#[]⟩ ⟨#[]⟩ 0 0 []), r)
  else if nameT y then pDot (bsL y.2) r
  else (none, y :: r)
def opT (z : KT) : Bool := decide (z.1 = 4) && hasB opNames (bsL z.2)
def pTail (pe : List KT → PR Ex) (a : Ex) : List KT → PR Ex
 | [] => (pe []).bind fun b r => (some (.mk 7 ⟨#[]⟩ ⟨#[]⟩ 0 0 [a, b]), r)
 | z :: r =>
  if z = sg [58, 58] then (pe r).bind fun b r => (some (.mk 12 ⟨#[]⟩ ⟨#[]⟩ 0 0 [a, b]), r)
  else if opT z then (pe r).bind fun b r => (some (.mk 10 (bsL z.2) ⟨#[]⟩ 0 0 [a, b]), r)
  else (pe (z :: r)).bind fun b r => (some (.mk 7 ⟨#[]⟩ ⟨#[]⟩ 0 0 [a, b]), r)
def pFun (pe : List KT → PR Ex) (l : List KT) : PR Ex :=
 (pName l).bind fun n r => (eatT (sg [45, 62]) r).bind fun _ r => (pe r).bind fun a r => (some (.mk 6 n ⟨#[]⟩ 0 0 [a]), r)
def pLet (pe : List KT → PR Ex) (l : List KT) : PR Ex :=
 (pName l).bind fun n r => (eatT (sg [61]) r).bind fun _ r => (pe r).bind fun a r => (eatT (wd wIn) r).bind fun _ r => (pe r).bind fun b r => (some (.mk 8 n ⟨#[]⟩ 0 0 [a, b]), r)
def pIf (pe : List KT → PR Ex) (l : List KT) : PR Ex :=
 (pe l).bind fun a r => (eatT (wd wThen) r).bind fun _ r => (pe r).bind fun b r => (eatT (wd wElse) r).bind fun _ r => (pe r).bind fun c r => (some (.mk 9 ⟨#[]⟩ ⟨#[]⟩ 0 0 [a, b, c]), r)
def pCase (pe : List KT → PR Ex) (l : List KT) : PR Ex :=
 (pe l).bind fun a r => (eatT (wd wOf) r).bind fun _ r => (eatT (wd wNil) r).bind fun _ r => (eatT (sg [45, 62]) r).bind fun _ r => (pe r).bind fun b r =>
 (eatT (sg [124]) r).bind fun _ r => (pName r).bind fun n r => (eatT (sg [58, 58]) r).bind fun _ r => (pName r).bind fun m r => (eatT (sg [45, 62]) r).bind fun _ r =>
 (pe r).bind fun c r => (some (.mk 13 n m 0 0 [a, b, c]), r)
def pChance (l : List KT) : PR Ex :=
 (pNum l).bind fun i r => (eatT (wd wOf) r).bind fun _ r => (pNum r).bind fun d r => (some (.mk 14 ⟨#[]⟩ ⟨#[]⟩ i d []), r)
def pSum (pe : List KT → PR Ex) (l : List KT) : PR Ex :=
 (pe l).bind fun a r => (eatT (sg [124, 124]) r).bind fun _ r => (pe r).bind fun b r => (eatT (sg [124, 124]) r).bind fun _ r => (pe r).bind fun c r => (some (.mk 15 ⟨#[]⟩ ⟨#[]⟩ 0 0 [a, b, c]), r)
def pIn (pe : List KT → PR Ex) : List KT → PR Ex
 | [] => (pe []).bind fun a r => pTail pe a r
 | y :: r =>
  if y = wd wFun then pFun pe r
  else if y = wd wLet then pLet pe r
  else if y = wd wIf then pIf pe r
  else if y = wd wCase then pCase pe r
  else if y = wd wChance then pChance r
  else if y = wd wConflict then pSum pe r
  else (pe (y :: r)).bind fun a r => pTail pe a r
def pE : Nat → List KT → PR Ex
 | 0, l => (none, l)
 | _ + 1, [] => (none, [])
 | f + 1, y :: r => if y = sg [40] then (pIn (pE f) r).bind fun e r => (eatT (sg [41]) r).bind fun _ r => (some e, r) else pLeaf (y :: r)
end
section
open Go Go.RowKit
def wUse : List UInt8 := [117, 115, 101]
def wPub : List UInt8 := [112, 117, 98]
def wTest : List UInt8 := [116, 101, 115, 116]
def wFlaky : List UInt8 := [102, 108, 97, 107, 121]
def labelT (y : KT) : Bool := (decide (y.1 = 1) || decide (y.1 = 2)) && labelL y.2
def pLab : List KT → PR ByteArray
 | [] => (none, [])
 | y :: r => if labelT y then (some (bsL y.2), r) else (none, y :: r)
def pUses : Nat → List KT → PR (List ByteArray)
 | 0, l => (some [], l)
 | f + 1, l => if l.head? = some (wd wUse) then (pLab l.tail).bind fun s r => (eatT (sg [59]) r).bind fun _ r => (pUses f r).bind fun us r => (some (s :: us), r) else (some [], l)
def pSide : List KT → PR ByteArray
 | [] => (none, [])
 | y :: r => if y = wd wNil then (some ⟨#[]⟩, r) else pName (y :: r)
def pNames (l : List KT) : PR (List ByteArray) :=
 (pSide l).bind fun a r => if a ≠ ⟨#[]⟩ ∧ r.head? ≠ some (sg [124, 124]) then (some [a], r) else
  (eatT (sg [124, 124]) r).bind fun _ r => (pSide r).bind fun b r => (eatT (sg [124, 124]) r).bind fun _ r => (pSide r).bind fun c r => (some [a, b, c], r)
def pKind : List KT → PR Int
 | [] => (none, [])
 | y :: r => if y = wd wLet then (some 1, r) else if y = wd wTest then (some 2, r) else if y = wd wFlaky then (some 3, r) else (none, y :: r)
def pPos : List KT → PR Int
 | [] => (none, [])
 | y :: r => if numT y ∧ numV y.2 ≠ 0 then (some (numV y.2), r) else (none, y :: r)
def pId (l : List KT) : PR Int := if l.head? = some (sg [64]) then pPos l.tail else (some 0, l)
def pFlag (w : List UInt8) (l : List KT) : Bool × List KT := if l.head? = some (wd w) then (true, l.tail) else (false, l)
def pBody (f : Nat) (doubt pub : Bool) (l : List KT) : PR (Dc × Nat) :=
 (pKind l).bind fun k r => (pNames r).bind fun ns r2 => (pId r2).bind fun i r3 => (eatT (sg [61]) r3).bind fun _ r4 => (pE f r4).bind fun e r5 => (eatT (sg [59]) r5).bind fun _ r6 => (some (⟨i, k, pub, ns, doubt, e⟩, r.length), r6)
def pDecl (f : Nat) (l : List KT) : PR (Dc × Nat) := pBody f (pFlag wConflict l).1 (pFlag wPub (pFlag wConflict l).2).1 (pFlag wPub (pFlag wConflict l).2).2
def pDecls (f : Nat) : Nat → List KT → PR (List (Dc × Nat))
 | _, [] => (some [], [])
 | 0, y :: r => (none, y :: r)
 | g + 1, y :: r => (pDecl f (y :: r)).bind fun d r => (pDecls f g r).bind fun ds r => (some (d :: ds), r)
def pSrc (f : Nat) (l : List KT) : PR (Sr × List Nat) :=
 (pUses f l).bind fun us r => (pDecls f f r).bind fun ds r => (some (⟨us, ds.map Prod.fst⟩, ds.map Prod.snd), r)
end
section
section
open Go Go.RowKit
inductive Pt where
 | word (s : List UInt8)
 | sign (s : List UInt8)
 | name
 | number
 | expr
 | tail
 | join (k : Int) (op : ByteArray) (a b c : Nat)
structure Mch where
 todo : List Pt
 nm : List ByteArray
 ni : List Int
 su : List Ex
def joinE (k : Int) (op : ByteArray) (a b c : Nat) (m : Mch) : Ex :=
 let ns := m.nm.drop (m.nm.length - a)
 let is := m.ni.drop (m.ni.length - b)
 .mk k (if 0 < a then ns.getD 0 ⟨#[]⟩ else op) (if 1 < a then ns.getD 1 ⟨#[]⟩ else ⟨#[]⟩) (if 1 < b then is.getD 0 0 else 0) (if 1 < b then is.getD 1 0 else 0) (m.su.drop (m.su.length - c))
def restP (y : KT) : Option (List Pt) :=
 if y = wd wFun then some [.name, .sign [45, 62], .expr, .sign [41], .join 6 ⟨#[]⟩ 1 0 1]
 else if y = wd wLet then some [.name, .sign [61], .expr, .word wIn, .expr, .sign [41], .join 8 ⟨#[]⟩ 1 0 2]
 else if y = wd wIf then some [.expr, .word wThen, .expr, .word wElse, .expr, .sign [41], .join 9 ⟨#[]⟩ 0 0 3]
 else if y = wd wCase then some [.expr, .word wOf, .word wNil, .sign [45, 62], .expr, .sign [124], .name, .sign [58, 58], .name, .sign [45, 62], .expr, .sign [41], .join 13 ⟨#[]⟩ 2 0 3]
 else if y = wd wChance then some [.number, .word wOf, .number, .sign [41], .join 14 ⟨#[]⟩ 0 2 0]
 else if y = wd wConflict then some [.expr, .sign [124, 124], .expr, .sign [124, 124], .expr, .sign [41], .join 15 ⟨#[]⟩ 0 0 3]
 else none
def tailP (z : KT) : List Pt × Bool :=
 if opT z then ([.expr, .sign [41], .join 10 (bsL z.2) 0 0 2], true)
 else if z = sg [58, 58] then ([.expr, .sign [41], .join 12 ⟨#[]⟩ 0 0 2], true)
 else ([.expr, .sign [41], .join 7 ⟨#[]⟩ 0 0 2], false)
def stepP (p : Pt) (m : Mch) (l : List KT) : PR Mch :=
 match p with
 | .word s => (eatT (wd s) l).bind fun _ r => (some m, r)
 | .sign s => (eatT (sg s) l).bind fun _ r => (some m, r)
 | .name => (pName l).bind fun n r => (some { m with nm := m.nm ++ [n] }, r)
 | .number => (pNum l).bind fun n r => (some { m with ni := m.ni ++ [n] }, r)
 | .expr => match l with
  | [] => (none, [])
  | y :: r => if y = sg [40] then match r with
    | [] => (none, [])
    | z :: q => match restP z with
     | some ps => (some { m with todo := ps ++ m.todo }, q)
     | none => (some { m with todo := .expr :: .tail :: m.todo }, z :: q)
   else (pLeaf (y :: r)).bind fun e r => (some { m with su := m.su ++ [e] }, r)
 | .tail => match l with
  | [] => (none, [])
  | z :: r => (some { m with todo := (tailP z).1 ++ m.todo }, if (tailP z).2 then r else z :: r)
 | .join k op a b c => (some ⟨m.todo, m.nm.take (m.nm.length - a), m.ni.take (m.ni.length - b), m.su.take (m.su.length - c) ++ [joinE k op a b c m]⟩, l)
inductive MRun : Nat → Mch → List KT → PR Mch → Prop
 | done (m : Mch) (l : List KT) (h : m.todo = []) : MRun 0 m l (some m, l)
 | fail (p : Pt) (ps : List Pt) (nm : List ByteArray) (ni : List Int) (su : List Ex) (l r : List KT) (h : stepP p ⟨ps, nm, ni, su⟩ l = (none, r)) : MRun 1 ⟨p :: ps, nm, ni, su⟩ l (none, r)
 | step (n : Nat) (p : Pt) (ps : List Pt) (nm : List ByteArray) (ni : List Int) (su : List Ex) (l r : List KT) (m' : Mch) (R : PR Mch) (h : stepP p ⟨ps, nm, ni, su⟩ l = (some m', r)) (h' : MRun n m' r R) : MRun (n + 1) ⟨p :: ps, nm, ni, su⟩ l R
def MRuns (ps : List Pt) (nm : List ByteArray) (ni : List Int) (su : List Ex) (l : List KT) (R : PR Mch) : Prop := ∃ n, MRun n ⟨ps, nm, ni, su⟩ l R
def Goes (td : List Pt) (nm : List ByteArray) (ni : List Int) (su : List Ex) (x : PR Ex) (R : PR Mch) : Prop :=
 match x with
 | (some e, r) => MRuns td nm ni (su ++ [e]) r R
 | (none, r) => R = (none, r)
variable {td ps : List Pt} {nm nm0 : List ByteArray} {ni ni0 : List Int} {su su0 : List Ex} {l : List KT} {R : PR Mch}
def Shorter (pe : List KT → PR Ex) : Prop := ∀ l, (pe l).2.length ≤ l.length
theorem eat_le (x : KT) (l : List KT) : (eatT x l).2.length ≤ l.length := by
 cases l with
 | nil => simp [eatT]
 | cons y r => rw [eatT]; split <;> simp
theorem bind_le {α β : Type} {x : PR α} {f : α → List KT → PR β} {n : Nat} (h : x.2.length ≤ n) (hf : ∀ a r, r.length ≤ n → (f a r).2.length ≤ n) : (x.bind f).2.length ≤ n := by
 obtain ⟨a, r⟩ := x
 cases a with
 | none => exact h
 | some a => exact hf a r h
theorem pName_le (l : List KT) : (pName l).2.length ≤ l.length := by
 cases l with
 | nil => simp [pName]
 | cons y r => rw [pName]; split <;> simp
theorem pNum_le (l : List KT) : (pNum l).2.length ≤ l.length := by
 cases l with
 | nil => simp [pNum]
 | cons y r => rw [pNum]; split <;> simp
theorem pDot_le (n : ByteArray) (l : List KT) : (pDot n l).2.length ≤ l.length := by
 cases l with
 | nil => simp [pDot]
 | cons y r =>
  rw [pDot]; split
  ·exact bind_le (Nat.le_trans (pName_le r) (by simp)) fun a r h => h
  ·simp
theorem pLeaf_le (l : List KT) : (pLeaf l).2.length ≤ l.length := by
 cases l with
 | nil => simp [pLeaf]
 | cons y r =>
  rw [pLeaf]
  repeat' split
  all_goals first | (simp; done) | exact Nat.le_trans (pDot_le _ r) (by simp)
theorem pTail_le {pe : List KT → PR Ex} (h : Shorter pe) (a : Ex) (l : List KT) : (pTail pe a l).2.length ≤ l.length := by
 cases l with
 | nil => rw [pTail]; exact bind_le (h _) fun _ _ h => h
 | cons y r =>
  rw [pTail]
  repeat' split
  ·exact bind_le (Nat.le_trans (h r) (by simp)) fun _ _ h => h
  ·exact bind_le (Nat.le_trans (h r) (by simp)) fun _ _ h => h
  ·exact bind_le (h _) fun _ _ h => h
theorem pIn_le {pe : List KT → PR Ex} (h : Shorter pe) (l : List KT) : (pIn pe l).2.length ≤ l.length := by
 have he : ∀ {n} (r : List KT), r.length ≤ n → (pe r).2.length ≤ n := fun r hr => Nat.le_trans (h r) hr
 have ht : ∀ {n} (a : Ex) (r : List KT), r.length ≤ n → (pTail pe a r).2.length ≤ n := fun a r hr => Nat.le_trans (pTail_le h a r) hr
 have h1 : ∀ {n} (x : KT) (r : List KT), r.length ≤ n → (eatT x r).2.length ≤ n := fun x r hr => Nat.le_trans (eat_le x r) hr
 have h2 : ∀ {n} (r : List KT), r.length ≤ n → (pName r).2.length ≤ n := fun r hr => Nat.le_trans (pName_le r) hr
 have h3 : ∀ {n} (r : List KT), r.length ≤ n → (pNum r).2.length ≤ n := fun r hr => Nat.le_trans (pNum_le r) hr
 cases l with
 | nil => rw [pIn]; exact bind_le (h _) fun a r hr => ht a r hr
 | cons y r =>
  rw [pIn]
  simp only [List.length_cons]
  unfold pFun pLet pIf pCase pChance pSum
  repeat' split
  all_goals (repeat' first | exact he _ (by simp) | exact h1 _ _ ‹_› | exact h2 _ ‹_› | exact h3 _ ‹_› | exact he _ ‹_› | exact ht _ _ ‹_› | exact h2 _ (by simp) | exact h3 _ (by simp) | exact ‹_› | refine bind_le ?_ fun _ _ _ => ?_)
theorem pE_le : ∀ f : Nat, Shorter (pE f)
 | 0, l => by simp [pE]
 | f + 1, [] => by simp [pE]
 | f + 1, y :: r => by
  rw [pE]
  split
  ·refine bind_le (Nat.le_trans (pIn_le (pE_le f) r) (by simp)) fun e q hq => ?_
   exact bind_le (Nat.le_trans (eat_le _ q) hq) fun _ _ h => h
  ·exact pLeaf_le _
theorem mruns_step {p : Pt} {r : List KT} {m : Mch} (h : stepP p ⟨ps, nm, ni, su⟩ l = (some m, r)) (h' : MRuns m.todo m.nm m.ni m.su r R) : MRuns (p :: ps) nm ni su l R := by
 obtain ⟨n, hn⟩ := h'
 exact ⟨_, .step n p ps nm ni su l r m R h hn⟩
theorem mruns_fail {p : Pt} {r : List KT} (h : stepP p ⟨ps, nm, ni, su⟩ l = (none, r)) (h' : R = (none, r)) : MRuns (p :: ps) nm ni su l R := by
 subst h'
 exact ⟨1, .fail p ps nm ni su l r h⟩
theorem mruns_eat {x : KT} {p : Pt} (hp : p = .word x.2 ∧ x.1 = 1 ∨ p = .sign x.2 ∧ x.1 = 4) {φ : Unit → List KT → PR Ex} (h : Goes td nm0 ni0 su0 ((eatT x l).bind φ) R) (h' : ∀ r, r.length ≤ l.length → Goes td nm0 ni0 su0 (φ () r) R → MRuns ps nm ni su r R) : MRuns (p :: ps) nm ni su l R := by
 have hle := eat_le x l
 obtain ⟨x1, x2⟩ := x
 have hs : ∀ m l, stepP p m l = (eatT (x1, x2) l).bind fun _ r => (some m, r) := fun m l => by
  rcases hp with ⟨rfl, h⟩ | ⟨rfl, h⟩ <;> cases h <;> rfl
 cases he : eatT (x1, x2) l with
 | mk a r =>
  rw [he] at h hle
  cases a with
  | none => exact mruns_fail (r := r) (by rw [hs, he]; rfl) h
  | some u => exact mruns_step (by rw [hs, he]; rfl) (h' r hle h)
theorem mruns_name {φ : ByteArray → List KT → PR Ex} (h : Goes td nm0 ni0 su0 ((pName l).bind φ) R) (h' : ∀ n r, r.length ≤ l.length → Goes td nm0 ni0 su0 (φ n r) R → MRuns ps (nm ++ [n]) ni su r R) : MRuns (.name :: ps) nm ni su l R := by
 have hle := pName_le l
 cases he : pName l with
 | mk a r =>
  rw [he] at h hle
  cases a with
  | none => exact mruns_fail (r := r) (by simp only [stepP, he]; rfl) h
  | some u => exact mruns_step (by simp only [stepP, he]; rfl) (h' u r hle h)
theorem mruns_num {φ : Int → List KT → PR Ex} (h : Goes td nm0 ni0 su0 ((pNum l).bind φ) R) (h' : ∀ n r, r.length ≤ l.length → Goes td nm0 ni0 su0 (φ n r) R → MRuns ps nm (ni ++ [n]) su r R) : MRuns (.number :: ps) nm ni su l R := by
 have hle := pNum_le l
 cases he : pNum l with
 | mk a r =>
  rw [he] at h hle
  cases a with
  | none => exact mruns_fail (r := r) (by simp only [stepP, he]; rfl) h
  | some u => exact mruns_step (by simp only [stepP, he]; rfl) (h' u r hle h)
def Reader (N : Nat) (pe : List KT → PR Ex) : Prop := ∀ l td nm ni su R, l.length < N → Goes td nm ni su (pe l) R → MRuns (.expr :: td) nm ni su l R
theorem mruns_expr {N : Nat} {pe : List KT → PR Ex} (hpe : Reader N pe) (hs : Shorter pe) (hl : l.length < N) {φ : Ex → List KT → PR Ex} (h : Goes td nm0 ni0 su0 ((pe l).bind φ) R) (h' : ∀ e r, r.length ≤ l.length → Goes td nm0 ni0 su0 (φ e r) R → MRuns ps nm ni (su ++ [e]) r R) : MRuns (.expr :: ps) nm ni su l R := by
 have hle := hs l
 refine hpe l ps nm ni su R hl ?_
 cases he : pe l with
 | mk a r =>
  rw [he] at h hle
  cases a with
  | none => exact h
  | some e => exact h' e r hle h
theorem mruns_join {k : Int} {op : ByteArray} {a b c : Nat} {e : Ex} {nm' : List ByteArray} {ni' : List Int} {su' : List Ex} (ns : List ByteArray) (is : List Int) (ss : List Ex) (h : Goes td nm ni su (some e, l) R) (h1 : nm' = nm ++ ns) (h2 : ni' = ni ++ is) (h3 : su' = su ++ ss) (ha : ns.length = a) (hb : is.length = b) (hc : ss.length = c) (he : joinE k op a b c ⟨td, ns, is, ss⟩ = e) :
  MRuns (.join k op a b c :: td) nm' ni' su' l R := by
 refine mruns_step (m := ⟨td, nm, ni, su ++ [e]⟩) ?_ h
 subst h1 h2 h3 ha hb hc he
 simp [stepP, joinE]
theorem opT_ne {z : KT} (h : opT z = true) : z ≠ sg [58, 58] := fun e => by
 subst e; revert h; decide
theorem bind_assoc {α β γ : Type} (x : PR α) (f : α → List KT → PR β) (g : β → List KT → PR γ) : (x.bind f).bind g = x.bind fun a r => (f a r).bind g := by
 obtain ⟨a, r⟩ := x; cases a <;> rfl
theorem mruns_tail {N : Nat} {pe : List KT → PR Ex} (hpe : Reader N pe) (hs : Shorter pe) (hn : pe [] = (none, [])) (hl : l.length < N) (a : Ex) (h : Goes td nm ni su ((pTail pe a l).bind fun e r => (eatT (sg [41]) r).bind fun _ r => (some e, r)) R) : MRuns (.tail :: td) nm ni (su ++ [a]) l R := by
 cases l with
 | nil =>
  rw [pTail, hn] at h
  exact mruns_fail (r := []) rfl h
 | cons z r =>
  rw [List.length_cons] at hl
  rw [pTail] at h
  by_cases h1 : z = sg [58, 58]
  ·rw [if_pos h1, bind_assoc] at h
   have ho : opT z = false := by cases ho : opT z with
    | false => rfl
    | true => exact absurd h1 (opT_ne ho)
   refine mruns_step (m := ⟨[.expr, .sign [41], .join 12 ⟨#[]⟩ 0 0 2] ++ td, nm, ni, su ++ [a]⟩) (r := r) (by show (some _, _) = _; unfold tailP; rw [if_neg (by rw [ho]; decide), if_pos h1]; rfl) ?_
   refine mruns_expr hpe hs (by omega) h fun e r hr h => mruns_eat (.inr ⟨rfl, rfl⟩) (x := sg [41]) h fun r hr h => mruns_join [] [] [a, e] h (by simp) (by simp) (by simp) rfl rfl rfl rfl
  ·rw [if_neg h1] at h
   by_cases h2 : opT z = true
   ·rw [if_pos h2, bind_assoc] at h
    refine mruns_step (m := ⟨[.expr, .sign [41], .join 10 (bsL z.2) 0 0 2] ++ td, nm, ni, su ++ [a]⟩) (r := r) (by simp [stepP, tailP, h2]) ?_
    refine mruns_expr hpe hs (by omega) h fun e r hr h => mruns_eat (.inr ⟨rfl, rfl⟩) (x := sg [41]) h fun r hr h => mruns_join [] [] [a, e] h (by simp) (by simp) (by simp) rfl rfl rfl rfl
   ·rw [if_neg h2, bind_assoc] at h
    refine mruns_step (m := ⟨[.expr, .sign [41], .join 7 ⟨#[]⟩ 0 0 2] ++ td, nm, ni, su ++ [a]⟩) (r := z :: r) (by simp [stepP, tailP, h1, h2]) ?_
    refine mruns_expr hpe hs (by rw [List.length_cons]; omega) h fun e r hr h => mruns_eat (.inr ⟨rfl, rfl⟩) (x := sg [41]) h fun r hr h => mruns_join [] [] [a, e] h (by simp) (by simp) (by simp) rfl rfl rfl rfl
set_option maxHeartbeats 1000000 in
theorem reader_in {N : Nat} {pe : List KT → PR Ex} (hpe : Reader N pe) (hs : Shorter pe) (hn : pe [] = (none, [])) (z : KT) (q : List KT) (hl : q.length + 1 < N) (h : Goes td nm ni su ((pIn pe (z :: q)).bind fun e r => (eatT (sg [41]) r).bind fun _ r => (some e, r)) R) :
  match restP z with
  | some ps => MRuns (ps ++ td) nm ni su q R
  | none => MRuns (.expr :: .tail :: td) nm ni su (z :: q) R := by
 rw [pIn] at h
 unfold restP
 by_cases h1 : z = wd wFun
 ·rw [if_pos h1] at h ⊢
  simp only [pFun, bind_assoc] at h
  exact mruns_name h fun n r _ h => mruns_eat (.inr ⟨rfl, rfl⟩) h fun r _ h => mruns_expr hpe hs (by omega) h fun e r _ h => mruns_eat (.inr ⟨rfl, rfl⟩) h fun r _ h => mruns_join [n] [] [e] h (by simp) (by simp) (by simp) rfl rfl rfl rfl
 rw [if_neg h1] at h ⊢
 by_cases h1 : z = wd wLet
 ·rw [if_pos h1] at h ⊢
  simp only [pLet, bind_assoc] at h
  exact mruns_name h fun n r _ h => mruns_eat (.inr ⟨rfl, rfl⟩) h fun r _ h => mruns_expr hpe hs (by omega) h fun a r _ h => mruns_eat (.inl ⟨rfl, rfl⟩) h fun r _ h => mruns_expr hpe hs (by omega) h fun b r _ h => mruns_eat (.inr ⟨rfl, rfl⟩) h fun r _ h => mruns_join [n] [] [a, b] h (by simp) (by simp) (by simp) rfl rfl rfl rfl
 rw [if_neg h1] at h ⊢
 by_cases h1 : z = wd wIf
 ·rw [if_pos h1] at h ⊢
  simp only [pIf, bind_assoc] at h
  exact mruns_expr hpe hs (by omega) h fun a r _ h => mruns_eat (.inl ⟨rfl, rfl⟩) h fun r _ h => mruns_expr hpe hs (by omega) h fun b r _ h => mruns_eat (.inl ⟨rfl, rfl⟩) h fun r _ h => mruns_expr hpe hs (by omega) h fun c r _ h => mruns_eat (.inr ⟨rfl, rfl⟩) h fun r _ h => mruns_join [] [] [a, b, c] h (by simp) (by simp) (by simp) rfl rfl rfl rfl
 rw [if_neg h1] at h ⊢
 by_cases h1 : z = wd wCase
 ·rw [if_pos h1] at h ⊢
  simp only [pCase, bind_assoc] at h
  exact mruns_expr hpe hs (by omega) h fun a r _ h => mruns_eat (.inl ⟨rfl, rfl⟩) h fun r _ h => mruns_eat (.inl ⟨rfl, rfl⟩) h fun r _ h => mruns_eat (.inr ⟨rfl, rfl⟩) h fun r _ h => mruns_expr hpe hs (by omega) h fun b r _ h => mruns_eat (.inr ⟨rfl, rfl⟩) h fun r _ h => mruns_name h fun n r _ h => mruns_eat (.inr ⟨rfl, rfl⟩) h fun r _ h => mruns_name h fun m r _ h => mruns_eat (.inr ⟨rfl, rfl⟩) h fun r _ h => mruns_expr hpe hs (by omega) h fun c r _ h => mruns_eat (.inr ⟨rfl, rfl⟩) h fun r _ h => mruns_join [n, m] [] [a, b, c] h (by simp) (by simp) (by simp) rfl rfl rfl rfl
 rw [if_neg h1] at h ⊢
 by_cases h1 : z = wd wChance
 ·rw [if_pos h1] at h ⊢
  simp only [pChance, bind_assoc] at h
  exact mruns_num h fun i r _ h => mruns_eat (.inl ⟨rfl, rfl⟩) h fun r _ h => mruns_num h fun d r _ h => mruns_eat (.inr ⟨rfl, rfl⟩) h fun r _ h => mruns_join [] [i, d] [] h (by simp) (by simp) (by simp) rfl rfl rfl rfl
 rw [if_neg h1] at h ⊢
 by_cases h1 : z = wd wConflict
 ·rw [if_pos h1] at h ⊢
  simp only [pSum, bind_assoc] at h
  exact mruns_expr hpe hs (by omega) h fun a r _ h => mruns_eat (.inr ⟨rfl, rfl⟩) h fun r _ h => mruns_expr hpe hs (by omega) h fun b r _ h => mruns_eat (.inr ⟨rfl, rfl⟩) h fun r _ h => mruns_expr hpe hs (by omega) h fun c r _ h => mruns_eat (.inr ⟨rfl, rfl⟩) h fun r _ h => mruns_join [] [] [a, b, c] h (by simp) (by simp) (by simp) rfl rfl rfl rfl
 rw [if_neg h1] at h ⊢
 rw [bind_assoc] at h
 exact mruns_expr hpe hs (by rw [List.length_cons]; omega) h fun a r hr h => mruns_tail hpe hs hn (by rw [List.length_cons] at hr; omega) a h
theorem pE_nil : ∀ f, pE f [] = (none, [])
 | 0 => rfl
 | _ + 1 => rfl
theorem stepP_leaf {m : Mch} {y : KT} {r : List KT} (h : y ≠ sg [40]) : stepP .expr m (y :: r) = (pLeaf (y :: r)).bind fun e r => (some { m with su := m.su ++ [e] }, r) := by
 unfold stepP; simp only [if_neg h]
theorem stepP_open {m : Mch} {y z : KT} {q : List KT} (h : y = sg [40]) : stepP .expr m (y :: z :: q) = match restP z with
  | some ps => (some { m with todo := ps ++ m.todo }, q)
  | none => (some { m with todo := .expr :: .tail :: m.todo }, z :: q) := by
 unfold stepP; simp only [if_pos h]
theorem stepP_end {m : Mch} {y : KT} (h : y = sg [40]) : stepP .expr m [y] = (none, []) := by
 unfold stepP; simp only [if_pos h]
theorem reader_pE : ∀ f : Nat, Reader f (pE f)
 | 0 => fun l _ _ _ _ _ h => absurd h (Nat.not_lt_zero _)
 | f + 1 => fun l td nm ni su R hl h => by
  cases l with
  | nil => exact mruns_fail (r := []) rfl h
  | cons y r =>
   rw [List.length_cons] at hl
   rw [pE] at h
   by_cases hy : y = sg [40]
   ·rw [if_pos hy] at h
    cases r with
    | nil =>
     rw [pIn, pE_nil] at h
     exact mruns_fail (r := []) (stepP_end hy) h
    | cons z q =>
     have h1 := reader_in (reader_pE f) (pE_le f) (pE_nil f) z q (by rw [List.length_cons] at hl; omega) h
     cases hz : restP z with
     | some ps =>
      rw [hz] at h1
      exact mruns_step (m := ⟨ps ++ td, nm, ni, su⟩) (r := q) (by rw [stepP_open hy, hz]) h1
     | none =>
      rw [hz] at h1
      exact mruns_step (m := ⟨.expr :: .tail :: td, nm, ni, su⟩) (r := z :: q) (by rw [stepP_open hy, hz]) h1
   ·rw [if_neg hy] at h
    cases he : pLeaf (y :: r) with
    | mk a q =>
     rw [he] at h
     cases a with
     | none => exact mruns_fail (r := q) (by rw [stepP_leaf hy, he]; rfl) h
     | some e => exact mruns_step (m := ⟨td, nm, ni, su ++ [e]⟩) (r := q) (by rw [stepP_leaf hy, he]; rfl) h
end
section
open Go Go.RowKit
def AgreeR (n : Nat) (p q : List KT → PR Ex) : Prop := ∀ l, l.length ≤ n → p l = q l
theorem bind_congr {α β : Type} {x : PR α} {f g : α → List KT → PR β} {n : Nat} (h : x.2.length ≤ n) (hf : ∀ a r, r.length ≤ n → f a r = g a r) : x.bind f = x.bind g := by
 obtain ⟨a, r⟩ := x
 cases a with
 | none => rfl
 | some a => exact hf a r h
theorem pTail_agree {p q : List KT → PR Ex} {n : Nat} (h : AgreeR n p q) (a : Ex) (l : List KT) (hl : l.length ≤ n) : pTail p a l = pTail q a l := by
 cases l with
 | nil => rw [pTail, pTail, h _ hl]
 | cons y r =>
  rw [List.length_cons] at hl
  rw [pTail, pTail, h r (by omega), h (y :: r) (by rw [List.length_cons]; omega)]
theorem pIn_agree {p q : List KT → PR Ex} {n : Nat} (h : AgreeR n p q) (hs : Shorter q) (l : List KT) (hl : l.length ≤ n) : pIn p l = pIn q l := by
 have he : ∀ {m} (r : List KT), r.length ≤ m → (q r).2.length ≤ m := fun r hr => Nat.le_trans (hs r) hr
 have h1 : ∀ {m} (x : KT) (r : List KT), r.length ≤ m → (eatT x r).2.length ≤ m := fun x r hr => Nat.le_trans (eat_le x r) hr
 have h2 : ∀ {m} (r : List KT), r.length ≤ m → (pName r).2.length ≤ m := fun r hr => Nat.le_trans (pName_le r) hr
 have key : ∀ {β : Type} (r : List KT) (f g : Ex → List KT → PR β), r.length ≤ n → (∀ a r, r.length ≤ n → f a r = g a r) → (p r).bind f = (q r).bind g := fun r f g hr hf => by
  rw [h r hr]; exact bind_congr (he r hr) hf
 cases l with
 | nil => rw [pIn, pIn]; exact key _ _ _ hl fun a r hr => pTail_agree h a r hr
 | cons y r =>
  rw [List.length_cons] at hl
  have hr : r.length ≤ n := by omega
  have hy : (y :: r).length ≤ n := by rw [List.length_cons]; omega
  rw [pIn, pIn]
  unfold pFun pLet pIf pCase pSum
  repeat' split
  all_goals (repeat' first | rfl | exact pTail_agree h _ _ ‹_› | refine key _ _ _ ‹_› fun _ _ _ => ?_ | refine bind_congr (h1 _ _ ‹_›) fun _ _ _ => ?_ | refine bind_congr (h2 _ ‹_›) fun _ _ _ => ?_)
theorem pE_fuel : ∀ (f g : Nat) (l : List KT), l.length < f → l.length < g → pE f l = pE g l
 | 0, _, _, h, _ => absurd h (Nat.not_lt_zero _)
 | _, 0, _, _, h => absurd h (Nat.not_lt_zero _)
 | f + 1, g + 1, [], _, _ => rfl
 | f + 1, g + 1, y :: r, hf, hg => by
  rw [List.length_cons] at hf hg
  rw [pE, pE]
  split
  ·rw [pIn_agree (n := r.length) (fun l hl => pE_fuel f g l (by omega) (by omega)) (pE_le g) r (Nat.le_refl _)]
  ·rfl
theorem foldD_le (l : List UInt8) : ∀ a : Nat, a ≤ l.foldl (fun a c => 10 * a + (c.toNat - 48)) a := by
 induction l with
 | nil => intro a; exact Nat.le_refl a
 | cons c l ih =>
  intro a
  rw [List.foldl_cons]
  exact Nat.le_trans (by omega) (ih _)
theorem valD_pos {c : UInt8} {l : List UInt8} (h : digitB c = true) (h0 : c.toNat ≠ 48) : valD (c :: l) ≠ 0 := by
 have h1 := foldD_le l (10 * 0 + (c.toNat - 48))
 have h2 : valD (c :: l) = l.foldl (fun a c => 10 * a + (c.toNat - 48)) (10 * 0 + (c.toNat - 48)) := by unfold valD; rw [List.foldl_cons]
 unfold digitB isDigit at h
 simp only [Bool.and_eq_true, decide_eq_true_eq] at h
 omega
theorem core_head {l : List UInt8} (h : numCore l = true) : ∃ c q, l = c :: q ∧ digitB c = true ∧ (c.toNat = 48 → q = []) := by
 unfold numCore at h
 simp only [Bool.and_eq_true, decide_eq_true_eq, Bool.not_eq_true'] at h
 obtain ⟨⟨⟨h1, _⟩, h2⟩, h3⟩ := h
 cases l with
 | nil => simp at h1
 | cons c q =>
  refine ⟨c, q, rfl, by simp only [List.all_cons, Bool.and_eq_true] at h3; exact h3.1, fun e => ?_⟩
  simp only [List.head?_cons, Option.getD_some, e, beq_self_eq_true, Bool.true_and, decide_eq_false_iff_not, List.length_cons] at h2
  cases q with
  | nil => rfl
  | cons d q => simp at h2
theorem numV_zero {l : List UInt8} (h : numberL l = true) (hl : l ≠ [48]) : numV l ≠ 0 := by
 unfold numberL at h
 split at h
 ·rename_i hp
  simp only [Bool.and_eq_true, Bool.not_eq_true'] at h
  obtain ⟨h1, h2⟩ := h
  obtain ⟨c, q, e1, e2, e3⟩ := core_head h1
  cases l with
  | nil => cases e1
  | cons m l =>
   have hm : m = 45 := by
    unfold Lib.hasPrefix at hp
    simp only [List.isPrefixOf, Bool.and_true, beq_iff_eq] at hp
    exact hp.symm
   subst hm
   rw [List.tail_cons] at e1
   subst e1
   unfold numV
   rw [List.head?_cons, if_pos rfl, List.tail_cons]
   have := valD_pos (l := q) e2 (by simpa using h2)
   omega
 ·rename_i hp
  obtain ⟨c, q, rfl, e2, e3⟩ := core_head h
  have hc : c ≠ 45 := by
   rintro rfl
   exact absurd e2 (by decide)
  unfold numV
  rw [List.head?_cons, if_neg (by simpa using hc)]
  have h0 : c.toNat ≠ 48 := fun e => by
   have := e3 e
   subst this
   exact hl (by rw [show c = 48 from UInt8.toNat_inj.1 e])
  have := valD_pos (l := q) e2 h0
  omega
end
end
end Go.Proofs.YtnnolijagpakiaaGreatDoor
