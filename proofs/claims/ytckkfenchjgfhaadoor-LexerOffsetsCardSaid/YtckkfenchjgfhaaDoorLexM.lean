/- The chapter's examples: awake returns true. -/
import Derived.Test.YtckkfenchjgfhaaDoorLexL
namespace Go.Proofs.YtckkfenchjgfhaaDoor
open Go.RowKit

theorem scan_ex1 : scanAll [40, 97, 45, 62, 98, 47, 99, 41, 32, 45, 49] = ([⟨4, [40], 0⟩, ⟨1, [97], 1⟩, ⟨4, [45, 62], 2⟩, ⟨2, [98, 47, 99], 4⟩, ⟨4, [41], 7⟩, ⟨3, [45, 49], 9⟩], none) := by kernel_rfl
theorem scan_ex2 : scanAll [97, 32, 48, 48, 55] = ([], some 2) := by kernel_rfl
set_option maxHeartbeats 1000000 in
theorem awake_any (w : World) : Calls Tryd.prog 10 #[] w fun e w' => e = .returned (.bool true) ∧ Below w.heap.size w w' := by
  go_enter Tryd.func10, Tryd.ntmps10
  go_wp2_with fail
  refine (scan_short _ _ (by decide)).mono ?_
  rintro e w1 ⟨v, p, c, rfl, hB1, h⟩
  rcases h with ⟨ts, hs, rfl, rfl, hown, _, _⟩ | ⟨q, hs, _⟩
  · have ex1 := scan_ex1
    rw [show (ByteArray.mk #[40, 97, 45, 62, 98, 47, 99, 41, 32, 45, 49]).data.toList = [40, 97, 45, 62, 98, 47, 99, 41, 32, 45, 49] from rfl, ex1] at hs
    obtain rfl := (Prod.mk.inj hs).1
    clear hs ex1
    obtain ⟨_, h⟩ := id hown
    rcases h with ⟨_, h⟩ | ⟨g, cap, cur, rfl, hg, hgh, _, _, _, _⟩
    · simp at h
    · have hc := fun j hj => hown.cellAt j hj
      have hgl : g < w1.heap.size := lt_of_block hgh
      have c7 : w1.cell? ⟨g, 7, none⟩ = some (.string ⟨#[45, 62]⟩) := hc 7 (by decide)
      have c9 : w1.cell? ⟨g, 9, none⟩ = some (.int .i64 2) := hc 9 (by decide)
      have c15 : w1.cell? ⟨g, 15, none⟩ = some (.int .i64 3) := hc 15 (by decide)
      have c16 : w1.cell? ⟨g, 16, none⟩ = some (.string ⟨#[45, 49]⟩) := hc 16 (by decide)
      have c17 : w1.cell? ⟨g, 17, none⟩ = some (.int .i64 9) := hc 17 (by decide)
      clear hc hown hgh
      go_wp2_with fail
      refine (scan_short _ _ (by decide)).mono ?_
      rintro e w2 ⟨v, p, c, rfl, hB2, h⟩
      rcases h with ⟨ts, hs, _⟩ | ⟨q, hs, _, rfl, rfl, rfl⟩
      · rw [show (ByteArray.mk #[97, 32, 48, 48, 55]).data.toList = [97, 32, 48, 48, 55] from rfl, scan_ex2] at hs
        simp at hs
      · rw [show (ByteArray.mk #[97, 32, 48, 48, 55]).data.toList = [97, 32, 48, 48, 55] from rfl, scan_ex2] at hs
        obtain rfl : 2 = q := by simpa using hs
        have d7 := (hB2.cell (p := ⟨g, 7, none⟩) hgl).trans c7
        have d9 := (hB2.cell (p := ⟨g, 9, none⟩) hgl).trans c9
        have d15 := (hB2.cell (p := ⟨g, 15, none⟩) hgl).trans c15
        have d16 := (hB2.cell (p := ⟨g, 16, none⟩) hgl).trans c16
        have d17 := (hB2.cell (p := ⟨g, 17, none⟩) hgl).trans c17
        have HB := Lib.hid (hB1.trans (hB2.mono hB1.size))
        clear hs c7 c9 c15 c16 c17 hB1 hB2
        go_wp2_with fail
        go_ret
        exact ⟨rfl, HB.out⟩
  · have ex1 := scan_ex1
    rw [show (ByteArray.mk #[40, 97, 45, 62, 98, 47, 99, 41, 32, 45, 49]).data.toList = [40, 97, 45, 62, 98, 47, 99, 41, 32, 45, 49] from rfl, ex1] at hs
    simp at hs
end Go.Proofs.YtckkfenchjgfhaaDoor
