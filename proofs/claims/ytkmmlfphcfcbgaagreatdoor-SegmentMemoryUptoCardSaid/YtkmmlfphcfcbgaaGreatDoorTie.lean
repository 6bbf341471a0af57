/-
  DERIVED. GIVEN WITH THE SEED: THE PROGRAM's TIES (one call each: nine closed facts by the kernel) AND EACH ROW's TIE, after the 31st guide's Derived/Test/Toyas{Tie, Card}.lean. No idea stands in it: it is a product of the set-up. Laid BY PROGRAM, IN A SANDBOX (cutbox-door.mjs). By AI agents, Wed Nov 11 2026. No macro, syntax, notation, axiom, sorry.
-/
import Derived.Test.YtkmmlfphcfcbgaaGreatDoorRows
import Derived.LaidByTextLater
import Derived.SevenTiedAt
import Derived.LaidSub
import Derived.LaidOnce
namespace Go.Proofs.YtkmmlfphcfcbgaaGreatDoor
open Go
set_option maxRecDepth 100000
theorem seatTie1 : Tryz.prog.laidByTextLater [("math/bits.deBruijn32tab", Rows.laid_math_bits_deBruijn32tab), ("math/bits.deBruijn64tab", Rows.laid_math_bits_deBruijn64tab), ("internal/strconv.uint64pow10", Rows.laid_internal_strconv_uint64pow10), ("turnstile/crc.halves", Rows.laid_turnstile_crc_halves), ("unicode/utf8.acceptRanges", Rows.laid_unicode_utf8_acceptRanges), ("strconv.ErrRange", Rows.laid_strconv_ErrRange), ("strconv.ErrSyntax", Rows.laid_strconv_ErrSyntax), ("turnstile/api.ErrArg", Rows.laid_turnstile_api_ErrArg), ("turnstile/api.ErrShort", Rows.laid_turnstile_api_ErrShort), ("turnstile/api.ErrForm", Rows.laid_turnstile_api_ErrForm), ("turnstile/api.ErrLong", Rows.laid_turnstile_api_ErrLong), ("turnstile/api.ErrSum", Rows.laid_turnstile_api_ErrSum), ("turnstile/api.ErrIo", Rows.laid_turnstile_api_ErrIo), ("turnstile/api.ErrDown", Rows.laid_turnstile_api_ErrDown), ("turnstile/api.ErrGone", Rows.laid_turnstile_api_ErrGone), ("turnstile/api.ErrThere", Rows.laid_turnstile_api_ErrThere), ("turnstile/api.ErrImage", Rows.laid_turnstile_api_ErrImage), ("turnstile/api.ErrSick", Rows.laid_turnstile_api_ErrSick), ("turnstile/api.ErrNil", Rows.laid_turnstile_api_ErrNil)] [.data, .data, .data, .data, .data, .sentinel, .sentinel, .sentinel, .sentinel, .sentinel, .sentinel, .sentinel, .sentinel, .sentinel, .sentinel, .sentinel, .sentinel, .sentinel, .sentinel] true :=
  Program.laidByTextLater_by_one 305 8 65 (by kernel_rfl) (by kernel_rfl) (by kernel_rfl) (by kernel_rfl) (by kernel_rfl) (by kernel_rfl) (fun _ _ => by kernel_rfl)
theorem pin_laid_unicode_utf8_first : Tryz.pinned.checked.prog.pinnedFits "unicode/utf8.first" = true := by kernel_rfl
theorem noOwnUnsafe : Tryz.pinned.checked.prog.headLifts.contains "ownunsafe" = false := by kernel_rfl
theorem fits1 : Tryz.pinned.checked.prog.listedFits [("math/bits.deBruijn32tab", Rows.laid_math_bits_deBruijn32tab), ("math/bits.deBruijn64tab", Rows.laid_math_bits_deBruijn64tab), ("internal/strconv.uint64pow10", Rows.laid_internal_strconv_uint64pow10), ("turnstile/crc.halves", Rows.laid_turnstile_crc_halves), ("unicode/utf8.acceptRanges", Rows.laid_unicode_utf8_acceptRanges), ("turnstile/api.ErrArg", Rows.laid_turnstile_api_ErrArg), ("turnstile/api.ErrShort", Rows.laid_turnstile_api_ErrShort), ("turnstile/api.ErrForm", Rows.laid_turnstile_api_ErrForm), ("turnstile/api.ErrLong", Rows.laid_turnstile_api_ErrLong), ("turnstile/api.ErrSum", Rows.laid_turnstile_api_ErrSum), ("turnstile/api.ErrIo", Rows.laid_turnstile_api_ErrIo), ("turnstile/api.ErrDown", Rows.laid_turnstile_api_ErrDown), ("turnstile/api.ErrGone", Rows.laid_turnstile_api_ErrGone), ("turnstile/api.ErrThere", Rows.laid_turnstile_api_ErrThere), ("turnstile/api.ErrSick", Rows.laid_turnstile_api_ErrSick), ("turnstile/api.ErrNil", Rows.laid_turnstile_api_ErrNil), ("unicode/utf8.first", Rows.laid_unicode_utf8_first)] = true := by
  unfold Program.listedFits
  rw [noOwnUnsafe]
  kernel_rfl
theorem tie : Tryz.prog.laidByTextLater [("math/bits.deBruijn32tab", Rows.laid_math_bits_deBruijn32tab), ("math/bits.deBruijn64tab", Rows.laid_math_bits_deBruijn64tab), ("internal/strconv.uint64pow10", Rows.laid_internal_strconv_uint64pow10), ("turnstile/crc.halves", Rows.laid_turnstile_crc_halves), ("unicode/utf8.acceptRanges", Rows.laid_unicode_utf8_acceptRanges), ("turnstile/api.ErrArg", Rows.laid_turnstile_api_ErrArg), ("turnstile/api.ErrShort", Rows.laid_turnstile_api_ErrShort), ("turnstile/api.ErrForm", Rows.laid_turnstile_api_ErrForm), ("turnstile/api.ErrLong", Rows.laid_turnstile_api_ErrLong), ("turnstile/api.ErrSum", Rows.laid_turnstile_api_ErrSum), ("turnstile/api.ErrIo", Rows.laid_turnstile_api_ErrIo), ("turnstile/api.ErrDown", Rows.laid_turnstile_api_ErrDown), ("turnstile/api.ErrGone", Rows.laid_turnstile_api_ErrGone), ("turnstile/api.ErrThere", Rows.laid_turnstile_api_ErrThere), ("turnstile/api.ErrSick", Rows.laid_turnstile_api_ErrSick), ("turnstile/api.ErrNil", Rows.laid_turnstile_api_ErrNil)] [.data, .data, .data, .data, .data, .sentinel, .sentinel, .sentinel, .sentinel, .sentinel, .sentinel, .sentinel, .sentinel, .sentinel, .sentinel, .sentinel] true :=
  Program.laidByTextLater.sub seatTie1 ["math/bits.deBruijn32tab", "math/bits.deBruijn64tab", "internal/strconv.uint64pow10", "turnstile/crc.halves", "unicode/utf8.acceptRanges", "turnstile/api.ErrArg", "turnstile/api.ErrShort", "turnstile/api.ErrForm", "turnstile/api.ErrLong", "turnstile/api.ErrSum", "turnstile/api.ErrIo", "turnstile/api.ErrDown", "turnstile/api.ErrGone", "turnstile/api.ErrThere", "turnstile/api.ErrSick", "turnstile/api.ErrNil"] (by kernel_rfl) (by kernel_rfl)
theorem segmentMemory_row_tie : Rows.segmentMemoryRow.laidByTextAt .later Tryz.pinned [.data, .data, .data, .data, .data, .sentinel, .sentinel, .sentinel, .sentinel, .sentinel, .sentinel, .sentinel, .sentinel, .sentinel, .sentinel, .sentinel, .pinned] true :=
  OpenClaim.laidByTextAt_pinned rfl rfl tie rfl rfl rfl rfl (fun y hy _e => by
    simp only [Rows.segmentMemoryRow, List.zip_cons_cons, List.zip_nil_right, List.mem_cons, List.mem_nil_iff, or_false] at hy
    rcases hy with rfl | rfl | rfl | rfl | rfl | rfl | rfl | rfl | rfl | rfl | rfl | rfl | rfl | rfl | rfl | rfl | rfl
    · cases _e
    · cases _e
    · cases _e
    · cases _e
    · cases _e
    · cases _e
    · cases _e
    · cases _e
    · cases _e
    · cases _e
    · cases _e
    · cases _e
    · cases _e
    · cases _e
    · cases _e
    · cases _e
    · exact ⟨pin_laid_unicode_utf8_first, by kernel_rfl⟩) fits1
theorem tie2 : Tryz.prog.laidByTextLater [("math/bits.deBruijn32tab", Rows.laid_math_bits_deBruijn32tab), ("math/bits.deBruijn64tab", Rows.laid_math_bits_deBruijn64tab), ("internal/strconv.uint64pow10", Rows.laid_internal_strconv_uint64pow10), ("turnstile/crc.halves", Rows.laid_turnstile_crc_halves), ("strconv.ErrRange", Rows.laid_strconv_ErrRange), ("strconv.ErrSyntax", Rows.laid_strconv_ErrSyntax), ("turnstile/api.ErrArg", Rows.laid_turnstile_api_ErrArg), ("turnstile/api.ErrShort", Rows.laid_turnstile_api_ErrShort), ("turnstile/api.ErrForm", Rows.laid_turnstile_api_ErrForm), ("turnstile/api.ErrLong", Rows.laid_turnstile_api_ErrLong), ("turnstile/api.ErrSum", Rows.laid_turnstile_api_ErrSum), ("turnstile/api.ErrIo", Rows.laid_turnstile_api_ErrIo), ("turnstile/api.ErrDown", Rows.laid_turnstile_api_ErrDown), ("turnstile/api.ErrGone", Rows.laid_turnstile_api_ErrGone), ("turnstile/api.ErrThere", Rows.laid_turnstile_api_ErrThere), ("turnstile/api.ErrNil", Rows.laid_turnstile_api_ErrNil)] [.data, .data, .data, .data, .sentinel, .sentinel, .sentinel, .sentinel, .sentinel, .sentinel, .sentinel, .sentinel, .sentinel, .sentinel, .sentinel, .sentinel] true :=
  Program.laidByTextLater.sub seatTie1 ["math/bits.deBruijn32tab", "math/bits.deBruijn64tab", "internal/strconv.uint64pow10", "turnstile/crc.halves", "strconv.ErrRange", "strconv.ErrSyntax", "turnstile/api.ErrArg", "turnstile/api.ErrShort", "turnstile/api.ErrForm", "turnstile/api.ErrLong", "turnstile/api.ErrSum", "turnstile/api.ErrIo", "turnstile/api.ErrDown", "turnstile/api.ErrGone", "turnstile/api.ErrThere", "turnstile/api.ErrNil"] (by kernel_rfl) (by kernel_rfl)
theorem snapNames_row_tie : Rows.snapNamesRow.laidByTextAt .later Tryz.pinned [.data, .data, .data, .data, .sentinel, .sentinel, .sentinel, .sentinel, .sentinel, .sentinel, .sentinel, .sentinel, .sentinel, .sentinel, .sentinel, .sentinel] true :=
  OpenClaim.laidByTextAt_later rfl rfl tie2 noOwnUnsafe
theorem snapMemory_row_tie : Rows.snapMemoryRow.laidByTextAt .later Tryz.pinned [.data, .data, .data, .data, .sentinel, .sentinel, .sentinel, .sentinel, .sentinel, .sentinel, .sentinel, .sentinel, .sentinel, .sentinel, .sentinel, .sentinel] true :=
  OpenClaim.laidByTextAt_later rfl rfl tie2 noOwnUnsafe
theorem snapCleans_row_tie : Rows.snapCleansRow.laidByTextAt .later Tryz.pinned [.data, .data, .data, .data, .sentinel, .sentinel, .sentinel, .sentinel, .sentinel, .sentinel, .sentinel, .sentinel, .sentinel, .sentinel, .sentinel, .sentinel] true :=
  OpenClaim.laidByTextAt_later rfl rfl tie2 noOwnUnsafe
theorem tie3 : Tryz.prog.laidByTextLater [("math/bits.deBruijn32tab", Rows.laid_math_bits_deBruijn32tab), ("math/bits.deBruijn64tab", Rows.laid_math_bits_deBruijn64tab), ("internal/strconv.uint64pow10", Rows.laid_internal_strconv_uint64pow10), ("turnstile/crc.halves", Rows.laid_turnstile_crc_halves), ("strconv.ErrRange", Rows.laid_strconv_ErrRange), ("strconv.ErrSyntax", Rows.laid_strconv_ErrSyntax), ("turnstile/api.ErrArg", Rows.laid_turnstile_api_ErrArg), ("turnstile/api.ErrShort", Rows.laid_turnstile_api_ErrShort), ("turnstile/api.ErrForm", Rows.laid_turnstile_api_ErrForm), ("turnstile/api.ErrLong", Rows.laid_turnstile_api_ErrLong), ("turnstile/api.ErrSum", Rows.laid_turnstile_api_ErrSum), ("turnstile/api.ErrIo", Rows.laid_turnstile_api_ErrIo), ("turnstile/api.ErrDown", Rows.laid_turnstile_api_ErrDown), ("turnstile/api.ErrGone", Rows.laid_turnstile_api_ErrGone), ("turnstile/api.ErrThere", Rows.laid_turnstile_api_ErrThere), ("turnstile/api.ErrImage", Rows.laid_turnstile_api_ErrImage), ("turnstile/api.ErrNil", Rows.laid_turnstile_api_ErrNil)] [.data, .data, .data, .data, .sentinel, .sentinel, .sentinel, .sentinel, .sentinel, .sentinel, .sentinel, .sentinel, .sentinel, .sentinel, .sentinel, .sentinel, .sentinel] true :=
  Program.laidByTextLater.sub seatTie1 ["math/bits.deBruijn32tab", "math/bits.deBruijn64tab", "internal/strconv.uint64pow10", "turnstile/crc.halves", "strconv.ErrRange", "strconv.ErrSyntax", "turnstile/api.ErrArg", "turnstile/api.ErrShort", "turnstile/api.ErrForm", "turnstile/api.ErrLong", "turnstile/api.ErrSum", "turnstile/api.ErrIo", "turnstile/api.ErrDown", "turnstile/api.ErrGone", "turnstile/api.ErrThere", "turnstile/api.ErrImage", "turnstile/api.ErrNil"] (by kernel_rfl) (by kernel_rfl)
theorem snapSpoilt_row_tie : Rows.snapSpoiltRow.laidByTextAt .later Tryz.pinned [.data, .data, .data, .data, .sentinel, .sentinel, .sentinel, .sentinel, .sentinel, .sentinel, .sentinel, .sentinel, .sentinel, .sentinel, .sentinel, .sentinel, .sentinel] true :=
  OpenClaim.laidByTextAt_later rfl rfl tie3 noOwnUnsafe
theorem snapWhole_row_tie : Rows.snapWholeRow.laidByTextAt .later Tryz.pinned [.data, .data, .data, .data, .sentinel, .sentinel, .sentinel, .sentinel, .sentinel, .sentinel, .sentinel, .sentinel, .sentinel, .sentinel, .sentinel, .sentinel, .sentinel] true :=
  OpenClaim.laidByTextAt_later rfl rfl tie3 noOwnUnsafe
theorem snapNewest_row_tie : Rows.snapNewestRow.laidByTextAt .later Tryz.pinned [.data, .data, .data, .data, .sentinel, .sentinel, .sentinel, .sentinel, .sentinel, .sentinel, .sentinel, .sentinel, .sentinel, .sentinel, .sentinel, .sentinel, .sentinel] true :=
  OpenClaim.laidByTextAt_later rfl rfl tie3 noOwnUnsafe
theorem segmentMemoryUpto_row_tie : Rows.segmentMemoryUptoRow.laidByTextAt .later Tryz.pinned [.data, .data, .data, .data, .data, .sentinel, .sentinel, .sentinel, .sentinel, .sentinel, .sentinel, .sentinel, .sentinel, .sentinel, .sentinel, .sentinel, .pinned] true :=
  OpenClaim.laidByTextAt_pinned rfl rfl tie rfl rfl rfl rfl (fun y hy _e => by
    simp only [Rows.segmentMemoryUptoRow, List.zip_cons_cons, List.zip_nil_right, List.mem_cons, List.mem_nil_iff, or_false] at hy
    rcases hy with rfl | rfl | rfl | rfl | rfl | rfl | rfl | rfl | rfl | rfl | rfl | rfl | rfl | rfl | rfl | rfl | rfl
    · cases _e
    · cases _e
    · cases _e
    · cases _e
    · cases _e
    · cases _e
    · cases _e
    · cases _e
    · cases _e
    · cases _e
    · cases _e
    · cases _e
    · cases _e
    · cases _e
    · cases _e
    · cases _e
    · exact ⟨pin_laid_unicode_utf8_first, by kernel_rfl⟩) fits1
theorem snapNamesUpto_row_tie : Rows.snapNamesUptoRow.laidByTextAt .later Tryz.pinned [.data, .data, .data, .data, .sentinel, .sentinel, .sentinel, .sentinel, .sentinel, .sentinel, .sentinel, .sentinel, .sentinel, .sentinel, .sentinel, .sentinel] true :=
  OpenClaim.laidByTextAt_later rfl rfl tie2 noOwnUnsafe
theorem snapMemoryUpto_row_tie : Rows.snapMemoryUptoRow.laidByTextAt .later Tryz.pinned [.data, .data, .data, .data, .sentinel, .sentinel, .sentinel, .sentinel, .sentinel, .sentinel, .sentinel, .sentinel, .sentinel, .sentinel, .sentinel, .sentinel] true :=
  OpenClaim.laidByTextAt_later rfl rfl tie2 noOwnUnsafe
theorem snapCleansUpto_row_tie : Rows.snapCleansUptoRow.laidByTextAt .later Tryz.pinned [.data, .data, .data, .data, .sentinel, .sentinel, .sentinel, .sentinel, .sentinel, .sentinel, .sentinel, .sentinel, .sentinel, .sentinel, .sentinel, .sentinel] true :=
  OpenClaim.laidByTextAt_later rfl rfl tie2 noOwnUnsafe
theorem snapSpoiltUpto_row_tie : Rows.snapSpoiltUptoRow.laidByTextAt .later Tryz.pinned [.data, .data, .data, .data, .sentinel, .sentinel, .sentinel, .sentinel, .sentinel, .sentinel, .sentinel, .sentinel, .sentinel, .sentinel, .sentinel, .sentinel, .sentinel] true :=
  OpenClaim.laidByTextAt_later rfl rfl tie3 noOwnUnsafe
theorem snapWholeUpto_row_tie : Rows.snapWholeUptoRow.laidByTextAt .later Tryz.pinned [.data, .data, .data, .data, .sentinel, .sentinel, .sentinel, .sentinel, .sentinel, .sentinel, .sentinel, .sentinel, .sentinel, .sentinel, .sentinel, .sentinel, .sentinel] true :=
  OpenClaim.laidByTextAt_later rfl rfl tie3 noOwnUnsafe
theorem snapNewestUpto_row_tie : Rows.snapNewestUptoRow.laidByTextAt .later Tryz.pinned [.data, .data, .data, .data, .sentinel, .sentinel, .sentinel, .sentinel, .sentinel, .sentinel, .sentinel, .sentinel, .sentinel, .sentinel, .sentinel, .sentinel, .sentinel] true :=
  OpenClaim.laidByTextAt_later rfl rfl tie3 noOwnUnsafe
end Go.Proofs.YtkmmlfphcfcbgaaGreatDoor
