/- A part of the proof of segmentNames_holds: what is wanted besides. No condition. -/
import Derived.Ground.SlgnProg
import Derived.Shelf.SlicesE.Clone
import Derived.Ground.SlgmProg
import Derived.Shelf.SortM.Plain
import Derived.Shelf.SortM.SortNone
import Derived.Shelf.SlSortCmp.NoneTotal
import Derived.Ground.SlsfProg
import Derived.Ground.NamesProg
import Derived.Shelf.Strconv.ToError
import Derived.Shelf.Strconv.ToErrorRange
import Derived.Shelf.Small.Wraps
import Derived.Ground.Names7Prog
import Derived.Shelf.Strings.Repeat
import Derived.Shelf.Spec.TrailingZeros
import Derived.Shelf.Strings.Trim
import Derived.Shelf.Slices.Turned
import Derived.Test.YtpckkdjdjkjapaaGreatDoorProg
import Derived.Test.YtpckkdjdjkjapaaGreatDoorC29

/-
  DERIVED: THE SHELF's CONTRACTS AT THIS DUMP, IN PLAIN WORDS (tools/lay-plain.mjs out of 'YtpckkdjdjkjapaaGreatDoorSh.lean', which tools/lay-shelf.mjs wrote): THE SAME DECLARATIONS UNDER THE SAME NAMES: 'import', 'namespace', 'open', 'def', 'theorem' AND NOTHING ELSE: no command of the shelf's: FOR A HAND-IN. Each laying: the table of numbers ('.._ren') and one theorem, a field a fact of the dump's own or the kernel's comparison; each contract: ONE APPLICATION.
-/
namespace Go.Proofs
open Go.Shelf
def YtpckkdjdjkjapaaGreatDoor.Dw.toErr_lays_ren : Go.Shelf.Ren := ⟨fun | 245 => 165 | 279 => 204 | 280 => 205 | 281 => 206 | 282 => 207 | 316 => 244 | 171 => 246 | 205 => 245 | 243 => 261 | 246 => 268 | 283 => 183 | 284 => 184 | 285 => 185 | 286 => 186 | 129 => 176 | 317 => 232 | 318 => 233 | 319 => 234 | 320 => 235 | 337 => 256 | 338 => 257 | n => n, fun | 9 => 9 | 3 => 3 | 75 => 32 | 167 => 262 | 4 => 4 | 168 => 264 | 210 => 311 | 37 => 40 | 0 => 0 | 127 => 248 | 145 => 322 | 143 => 320 | 2 => 2 | 171 => 240 | 53 => 60 | 5 => 5 | 173 => 242 | 212 => 295 | 51 => 214 | 20 => 20 | 213 => 296 | 46 => 187 | 232 => 325 | 233 => 326 | 80 => 208 | n => n, fun | 15 => 16 | 16 => 17 | 17 => 15 | 18 => 20 | 19 => 21 | n => n⟩
theorem YtpckkdjdjkjapaaGreatDoor.Dw.toErr_lays : Go.Proofs.LaysC.n245 Tryz.prog YtpckkdjdjkjapaaGreatDoor.Dw.toErr_lays_ren := {
  mixed := by kernel_rfl
  f129 := Tryz.func176.trans (congrArg some (by kernel_rfl))
  f171 := Tryz.func246.trans (congrArg some (by kernel_rfl))
  f205 := Tryz.func245.trans (congrArg some (by kernel_rfl))
  f243 := Tryz.func261.trans (congrArg some (by kernel_rfl))
  f245 := Tryz.func165.trans (congrArg some (by kernel_rfl))
  f246 := Tryz.func268.trans (congrArg some (by kernel_rfl))
  f279 := Tryz.func204.trans (congrArg some (by kernel_rfl))
  f280 := Tryz.func205.trans (congrArg some (by kernel_rfl))
  f281 := Tryz.func206.trans (congrArg some (by kernel_rfl))
  f282 := Tryz.func207.trans (congrArg some (by kernel_rfl))
  f283 := Tryz.func183.trans (congrArg some (by kernel_rfl))
  f284 := Tryz.func184.trans (congrArg some (by kernel_rfl))
  f285 := Tryz.func185.trans (congrArg some (by kernel_rfl))
  f286 := Tryz.func186.trans (congrArg some (by kernel_rfl))
  f316 := Tryz.func244.trans (congrArg some (by kernel_rfl))
  f317 := Tryz.func232.trans (congrArg some (by kernel_rfl))
  f318 := Tryz.func233.trans (congrArg some (by kernel_rfl))
  f319 := Tryz.func234.trans (congrArg some (by kernel_rfl))
  f320 := Tryz.func235.trans (congrArg some (by kernel_rfl))
  f337 := Tryz.func256.trans (congrArg some (by kernel_rfl))
  f338 := Tryz.func257.trans (congrArg some (by kernel_rfl))
  t0 := Tryz.underlying0
  a0 := Tryz.isAgg0
  z0 := Tryz.sizeOf0
  v0 := Tryz.zeroValue0
  t2 := Tryz.underlying2
  a2 := Tryz.isAgg2
  z2 := Tryz.sizeOf2
  v2 := Tryz.zeroValue2
  t3 := Tryz.underlying3
  a3 := Tryz.isAgg3
  z3 := Tryz.sizeOf3
  v3 := Tryz.zeroValue3
  t4 := Tryz.underlying4
  a4 := Tryz.isAgg4
  z4 := Tryz.sizeOf4
  v4 := Tryz.zeroValue4
  t5 := Tryz.underlying5
  a5 := Tryz.isAgg5
  z5 := Tryz.sizeOf5
  v5 := Tryz.zeroValue5
  t9 := Tryz.underlying9
  a9 := Tryz.isAgg9
  z9 := Tryz.sizeOf9
  v9 := Tryz.zeroValue9
  t20 := Tryz.underlying20
  a20 := Tryz.isAgg20
  z20 := Tryz.sizeOf20
  v20 := Tryz.zeroValue20
  t37 := Tryz.underlying40
  a37 := Tryz.isAgg40
  z37 := Tryz.sizeOf40
  v37 := Tryz.zeroValue40
  t46 := Tryz.underlying187
  a46 := Tryz.isAgg187
  z46 := Tryz.sizeOf187
  v46 := Tryz.zeroValue187
  t51 := Tryz.underlying214
  a51 := Tryz.isAgg214
  z51 := Tryz.sizeOf214
  v51 := Tryz.zeroValue214
  t53 := Tryz.underlying60
  a53 := Tryz.isAgg60
  z53 := Tryz.sizeOf60
  v53 := Tryz.zeroValue60
  t75 := Tryz.underlying32
  a75 := Tryz.isAgg32
  z75 := Tryz.sizeOf32
  v75 := Tryz.zeroValue32
  t127 := Tryz.underlying248
  a127 := Tryz.isAgg248
  z127 := Tryz.sizeOf248
  v127 := Tryz.zeroValue248
  t143 := Tryz.underlying320
  a143 := Tryz.isAgg320
  z143 := Tryz.sizeOf320
  v143 := Tryz.zeroValue320
  t145 := Tryz.underlying322
  a145 := Tryz.isAgg322
  z145 := Tryz.sizeOf322
  v145 := Tryz.zeroValue322
  t167 := Tryz.underlying262
  a167 := Tryz.isAgg262
  z167 := Tryz.sizeOf262
  v167 := Tryz.zeroValue262
  t168 := Tryz.underlying264
  a168 := Tryz.isAgg264
  z168 := Tryz.sizeOf264
  v168 := Tryz.zeroValue264
  t171 := Tryz.underlying240
  a171 := Tryz.isAgg240
  z171 := Tryz.sizeOf240
  v171 := Tryz.zeroValue240
  t173 := Tryz.underlying242
  a173 := Tryz.isAgg242
  z173 := Tryz.sizeOf242
  v173 := Tryz.zeroValue242
  t210 := Tryz.underlying311
  a210 := Tryz.isAgg311
  z210 := Tryz.sizeOf311
  v210 := Tryz.zeroValue311
  t212 := Tryz.underlying295
  a212 := Tryz.isAgg295
  z212 := Tryz.sizeOf295
  v212 := Tryz.zeroValue295
  t213 := Tryz.underlying296
  a213 := Tryz.isAgg296
  z213 := Tryz.sizeOf296
  t232 := Tryz.underlying325
  a232 := Tryz.isAgg325
  z232 := Tryz.sizeOf325
  v232 := Tryz.zeroValue325
  t233 := Tryz.underlying326
  a233 := Tryz.isAgg326
  z233 := Tryz.sizeOf326
  v233 := Tryz.zeroValue326
  g15 := by kernel_rfl
  g16 := by kernel_rfl
  g17 := by kernel_rfl
  g18 := by kernel_rfl
  g19 := by kernel_rfl
  t80 := Tryz.underlying208
  a80 := Tryz.isAgg208
  z80 := Tryz.sizeOf208
  v80 := Tryz.zeroValue208
  i0 := by kernel_rfl
  i2 := by kernel_rfl
  i3 := by kernel_rfl
  i4 := by kernel_rfl
  i5 := by kernel_rfl
  i9 := by kernel_rfl
  i20 := by kernel_rfl
  i37 := by kernel_rfl
  i46 := by kernel_rfl
  i51 := by kernel_rfl
  i53 := by kernel_rfl
  i75 := by kernel_rfl
  i80 := by kernel_rfl
  i127 := by kernel_rfl
  i143 := by kernel_rfl
  i145 := by kernel_rfl
  i167 := by kernel_rfl
  i168 := by kernel_rfl
  i171 := by kernel_rfl
  i173 := by kernel_rfl
  i210 := by kernel_rfl
  i212 := by kernel_rfl
  i232 := by kernel_rfl
  i233 := by kernel_rfl
  m15 := by kernel_rfl
  m16 := by kernel_rfl
  m17 := by kernel_rfl
  m18 := by kernel_rfl
  m19 := by kernel_rfl
  c0 := by kernel_rfl
  c2 := by kernel_rfl
  c3 := by kernel_rfl
  c4 := by kernel_rfl
  c5 := by kernel_rfl
  c9 := by kernel_rfl
  c20 := by kernel_rfl
  c37 := by kernel_rfl
  c46 := by kernel_rfl
  c51 := by kernel_rfl
  c53 := by kernel_rfl
  c75 := by kernel_rfl
  c80 := by kernel_rfl
  c127 := by kernel_rfl
  c143 := by kernel_rfl
  c145 := by kernel_rfl
  c167 := by kernel_rfl
  c168 := by kernel_rfl
  c171 := by kernel_rfl
  c173 := by kernel_rfl
  c210 := by kernel_rfl
  c212 := by kernel_rfl
  c213 := by kernel_rfl
  c232 := by kernel_rfl
  c233 := by kernel_rfl }
def YtpckkdjdjkjapaaGreatDoor.Dw.cutp_lays_ren : Go.Shelf.Ren := ⟨fun | 103 => 107 | 210 => 163 | 206 => 189 | n => n, fun | 9 => 9 | 4 => 4 | 24 => 176 | 3 => 3 | n => n, fun | n => n⟩
theorem YtpckkdjdjkjapaaGreatDoor.Dw.cutp_lays : Go.Proofs.Lays.n103 Tryz.prog YtpckkdjdjkjapaaGreatDoor.Dw.cutp_lays_ren := {
  mixed := by kernel_rfl
  f103 := Tryz.func107.trans (congrArg some (by kernel_rfl))
  f206 := Tryz.func189.trans (congrArg some (by kernel_rfl))
  f210 := Tryz.func163.trans (congrArg some (by kernel_rfl))
  t3 := Tryz.underlying3
  a3 := Tryz.isAgg3
  z3 := Tryz.sizeOf3
  v3 := Tryz.zeroValue3
  t4 := Tryz.underlying4
  a4 := Tryz.isAgg4
  z4 := Tryz.sizeOf4
  v4 := Tryz.zeroValue4
  t9 := Tryz.underlying9
  a9 := Tryz.isAgg9
  z9 := Tryz.sizeOf9
  v9 := Tryz.zeroValue9
  t24 := Tryz.underlying176
  a24 := Tryz.isAgg176
  z24 := Tryz.sizeOf176
  v24 := Tryz.zeroValue176 }
end Go.Proofs


/- Names of segments, as plain lists of bytes (no program in sight). -/
namespace Go.Proofs.YtpckkdjdjkjapaaGreatDoor.Sg
set_option linter.unusedVariables false
/-- What a digit says. -/
def hexv (c : Int) : Option Nat := if 48 ≤ c ∧ c ≤ 57 then some (c - 48).toNat else if 97 ≤ c ∧ c ≤ 102 then some (c - 87).toNat else none
theorem hexv_hexd (x : Nat) (h : x < 16) : hexv (hexd x) = some x := by
  unfold hexv hexd
  by_cases h1 : x < 10
  · rw [if_pos h1, if_pos (by omega)]; congr 1; omega
  · rw [if_neg h1, if_neg (by omega), if_pos (by omega)]; congr 1; omega
theorem hexd_hexv {c : Int} {x : Nat} (h : hexv c = some x) : x < 16 ∧ hexd x = c := by
  unfold hexv at h
  split at h
  · cases h; unfold hexd; rw [if_pos (by omega)]; exact ⟨by omega, by omega⟩
  · split at h
    · cases h; unfold hexd; rw [if_neg (by omega)]; exact ⟨by omega, by omega⟩
    · cases h
/-- The number that digits say, from the front. -/
def numOf : List Int → Nat → Option Nat
  | [], x => some x
  | c :: r, x => match hexv c with
    | some d => numOf r (16 * x + d)
    | none => none
theorem numOf_append : ∀ (a b : List Int) (x : Nat), numOf (a ++ b) x = (numOf a x).bind (numOf b)
  | [], b, x => rfl
  | c :: r, b, x => by
    simp only [List.cons_append, numOf]
    cases hexv c with
    | none => rfl
    | some d => exact numOf_append r b _
theorem numOf_digs : ∀ (n x y : Nat), x < 16 ^ n → numOf (digs n x) y = some (y * 16 ^ n + x)
  | 0, x, y, h => by simp at h; simp [digs, numOf, h]
  | n + 1, x, y, h => by
    have h1 : x / 16 < 16 ^ n := by
      rw [Nat.pow_succ, Nat.mul_comm] at h
      exact Nat.div_lt_of_lt_mul h
    rw [digs, numOf_append, numOf_digs n _ y h1]
    simp only [Option.bind_some, numOf, hexv_hexd _ (Nat.mod_lt x (by omega : 16 > 0))]
    congr 1
    rw [Nat.pow_succ, Nat.mul_add, Nat.mul_comm 16 (y * 16 ^ n), Nat.mul_assoc]
    omega
theorem digs_numOf : ∀ (s : List Int) (y x : Nat), numOf s y = some x → digs s.length x = s ∧ x / 16 ^ s.length = y := by
  have key : ∀ (n : Nat) (s : List Int) (y x : Nat), s.length = n → numOf s y = some x → digs n x = s ∧ x / 16 ^ n = y := by
    intro n
    induction n with
    | zero =>
      intro s y x hl h
      have : s = [] := List.eq_nil_of_length_eq_zero hl
      subst this
      simp only [numOf, Option.some.injEq] at h
      subst h
      exact ⟨rfl, by simp⟩
    | succ n ih =>
      intro s y x hl h
      have hne : s ≠ [] := fun e => by rw [e] at hl; cases hl
      obtain ⟨r, c, rfl⟩ : ∃ r c, s = r ++ [c] := ⟨_, _, (List.dropLast_concat_getLast hne).symm⟩
      rw [numOf_append] at h
      cases hr : numOf r y with
      | none => rw [hr] at h; cases h
      | some z =>
        rw [hr] at h
        simp only [Option.bind_some, numOf] at h
        cases hc : hexv c with
        | none => rw [hc] at h; cases h
        | some d =>
          rw [hc] at h
          simp only [Option.some.injEq] at h
          obtain ⟨h1, h2⟩ := hexd_hexv hc
          obtain ⟨i1, i2⟩ := ih r y z (by simpa using hl) hr
          have e1 : x / 16 = z := by omega
          have e2 : x % 16 = d := by omega
          refine ⟨by rw [digs, e1, e2, i1, h2], ?_⟩
          rw [Nat.pow_succ, Nat.mul_comm, ← Nat.div_div_eq_div_mul, e1, i2]
  intro s y x h
  exact key s.length s y x rfl h
/-- A segment's name read back: its number, if it is one. -/
def firstOf (n : List Int) : Option Nat :=
  if n.length = 20 ∧ n.take 4 = logB then
    match numOf (n.drop 4) 0 with
    | some x => if 1 ≤ x ∧ x ≤ 4611686018427387904 then some x else none
    | none => none
  else none
theorem firstOf_iff (n : List Int) (x : Nat) : firstOf n = some x ↔ n = nameOf x ∧ 1 ≤ x ∧ x ≤ 4611686018427387904 := by
  constructor
  · intro h
    unfold firstOf at h
    split at h
    · rename_i h1
      cases hn : numOf (n.drop 4) 0 with
      | none => rw [hn] at h; cases h
      | some y =>
        rw [hn] at h
        simp only [] at h
        split at h
        · rename_i h2
          cases h
          obtain ⟨d1, _⟩ := digs_numOf _ _ _ hn
          have hl : (n.drop 4).length = 16 := by rw [List.length_drop, h1.1]
          rw [hl] at d1
          refine ⟨?_, h2⟩
          unfold nameOf
          rw [d1, ← h1.2, List.take_append_drop]
        · cases h
    · cases h
  · rintro ⟨rfl, h1, h2⟩
    have e1 : (nameOf x).take 4 = logB := List.take_left' rfl
    have e2 : (nameOf x).drop 4 = digs 16 x := List.drop_left' rfl
    have e3 : (nameOf x).length = 20 := by simp [nameOf, logB, digs_length]
    unfold firstOf
    rw [if_pos ⟨e3, e1⟩, e2, numOf_digs 16 x 0 (by omega)]
    simp only [Nat.zero_mul, Nat.zero_add]
    rw [if_pos ⟨h1, h2⟩]
end Go.Proofs.YtpckkdjdjkjapaaGreatDoor.Sg
