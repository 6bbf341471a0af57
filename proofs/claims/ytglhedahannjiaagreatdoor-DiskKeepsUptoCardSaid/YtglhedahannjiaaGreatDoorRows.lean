/-
  NARROWER THAN 'FOR EVERY INPUT', by the rows' own cells (each row's printed sentence says how): DiskSectors: laid · DiskScripts: laid · DiskKept: laid · DiskSynced: laid · DiskFails: laid · DiskDown: laid · DiskKeeps: laid.
  DERIVED. THE GIVEN ROWS OF THIS SEAT. 7 by the template 'for every input the law returns true; each argument reads behind the call as it read before'; 0 by the template 'total and deterministic' (their statements: YtglhedahannjiaaGreatDoorTotals.lean).
  GIVEN WITH THE SEED: the statements are not yours to turn. If you find one false, say at which input.
  Laid BY PROGRAM, IN A SANDBOX (cutbox-rows.mjs): the forced cells as the released guide's own fill.sh prints them over the translation b0588d74a54d8b91… (all of the seat's roots in one cut). By AI agents, Wed Nov 11 2026. No macro, syntax, notation, axiom, sorry.
-/
import Derived.Test.YtglhedahannjiaaGreatDoorChecked
import GoSem.Claim
import GoSem.ClaimJoined
import GoSem.ClaimMapViews
import Derived.JoinedTies
import Derived.KernelRfl
namespace Go.Proofs.YtglhedahannjiaaGreatDoor
/- THE CELL 'sum', in the pinned program and in every row, IS THE sha256 OF THE DUMP (.gsa) THAT YtglhedahannjiaaGreatDoorProg.lean LOADS. Nothing in Lean hashes anything: it is a label: what it is worth is what the hold of that sum in a sandbox is worth. -/
noncomputable def Tryz.pinned : Pinned := { name := "ytglhedahannjiaagreatdoor", sum := "b0588d74a54d8b91ca07713203dbe93c70e0ca23cac9b3886680c69a7fe23f35", checked := Tryz.checked }
namespace Rows
def none {H : Type} : Left H := { results := [], args := [] }

/- WHAT THE LISTED PACKAGE-LEVEL VARIABLES READ AS WHEN THE CALL BEGINS. Each datum BY PROGRAM (the guide's laid-datum.mjs) off the statement by which the dump's own 'gosem.cut.vars' lays the variable. In a bare row this is a premise. The card (YtglhedahannjiaaGreatDoorCards.lean) ties it to the program's text. -/
def laid_turnstile_api_ErrArg {H : Type} : DataW H := .iface "*errors.errorString" (.ptr (.agg [.lit (.string [97, 110, 32, 97, 114, 103, 117, 109, 101, 110, 116, 32, 111, 117, 116, 115, 105, 100, 101, 32, 119, 104, 97, 116, 32, 116, 104, 101, 32, 99, 97, 108, 108, 32, 116, 97, 107, 101, 115])]))
def laid_turnstile_api_ErrIo {H : Type} : DataW H := .iface "*errors.errorString" (.ptr (.agg [.lit (.string [116, 104, 101, 32, 100, 105, 115, 107, 32, 102, 97, 105, 108, 101, 100])]))
def laid_turnstile_api_ErrDown {H : Type} : DataW H := .iface "*errors.errorString" (.ptr (.agg [.lit (.string [116, 104, 101, 32, 112, 111, 119, 101, 114, 32, 105, 115, 32, 111, 102, 102])]))
def laid_turnstile_api_ErrGone {H : Type} : DataW H := .iface "*errors.errorString" (.ptr (.agg [.lit (.string [110, 111, 32, 115, 117, 99, 104, 32, 102, 105, 108, 101])]))
def laid_turnstile_api_ErrThere {H : Type} : DataW H := .iface "*errors.errorString" (.ptr (.agg [.lit (.string [116, 104, 101, 114, 101, 32, 105, 115, 32, 115, 117, 99, 104, 32, 97, 32, 102, 105, 108, 101])]))
def laid_turnstile_api_ErrNil {H : Type} : DataW H := .iface "*errors.errorString" (.ptr (.agg [.lit (.string [110, 111, 32, 111, 98, 106, 101, 99, 116])]))
def laid_turnstile_api_ErrShort {H : Type} : DataW H := .iface "*errors.errorString" (.ptr (.agg [.lit (.string [116, 104, 101, 32, 98, 121, 116, 101, 115, 32, 101, 110, 100, 32, 116, 111, 111, 32, 101, 97, 114, 108, 121])]))
def laid_turnstile_api_ErrForm {H : Type} : DataW H := .iface "*errors.errorString" (.ptr (.agg [.lit (.string [116, 104, 101, 32, 98, 121, 116, 101, 115, 32, 104, 97, 118, 101, 32, 97, 110, 111, 116, 104, 101, 114, 32, 102, 111, 114, 109])]))
def laid_turnstile_api_ErrLong {H : Type} : DataW H := .iface "*errors.errorString" (.ptr (.agg [.lit (.string [109, 111, 114, 101, 32, 116, 104, 97, 110, 32, 116, 104, 101, 32, 108, 105, 109, 105, 116])]))
def laid_turnstile_api_ErrSum {H : Type} : DataW H := .iface "*errors.errorString" (.ptr (.agg [.lit (.string [116, 104, 101, 32, 115, 117, 109, 32, 105, 115, 32, 97, 110, 111, 116, 104, 101, 114, 32, 111, 110, 101])]))
def laid_turnstile_api_ErrImage {H : Type} : DataW H := .iface "*errors.errorString" (.ptr (.agg [.lit (.string [110, 111, 32, 105, 109, 97, 103, 101, 32, 111, 102, 32, 97, 32, 100, 105, 115, 107])]))
def laid_turnstile_api_ErrGap {H : Type} : DataW H := .iface "*errors.errorString" (.ptr (.agg [.lit (.string [114, 101, 99, 111, 114, 100, 115, 32, 97, 114, 101, 32, 109, 105, 115, 115, 105, 110, 103])]))
def laid_turnstile_api_ErrLog {H : Type} : DataW H := .iface "*errors.errorString" (.ptr (.agg [.lit (.string [97, 32, 114, 101, 99, 111, 114, 100, 32, 116, 104, 97, 116, 32, 105, 115, 32, 110, 111, 110, 101])]))
def laid_turnstile_api_ErrSick {H : Type} : DataW H := .iface "*errors.errorString" (.ptr (.agg [.lit (.string [97, 110, 32, 101, 97, 114, 108, 105, 101, 114, 32, 119, 114, 105, 116, 101, 32, 102, 97, 105, 108, 101, 100])]))
def laid_turnstile_api_ErrConfig {H : Type} : DataW H := .iface "*errors.errorString" (.ptr (.agg [.lit (.string [110, 111, 32, 99, 111, 110, 102, 105, 103, 117, 114, 97, 116, 105, 111, 110])]))

/-- 'turnstilelaw07.DiskSectors': WHATEVER THE INPUT: true; the input reads as it did. -/
def diskSectorsSpec : ChangeSpec := { name := "diskSectors", fn := fun _ => fun
  | [d1, d2, d3] => { results := [.lit (.bool true)], args := [d1, d2, d3] }
  | _ => none }
def diskSectorsRow : OpenClaim := { program := "ytglhedahannjiaagreatdoor", sum := "b0588d74a54d8b91ca07713203dbe93c70e0ca23cac9b3886680c69a7fe23f35", func := "turnstile/turnstilelaw07.DiskSectors", spec := "diskSectors", inPlace := ["internal/reflectlite.TypeOf"], unfollowed := true, recurses := true, named := ["turnstile/api.ErrThere", "turnstile/api.ErrArg", "turnstile/api.ErrNil", "turnstile/api.ErrDown", "turnstile/api.ErrIo", "turnstile/api.ErrGone"], apart := false, laid := [("turnstile/api.ErrArg", laid_turnstile_api_ErrArg), ("turnstile/api.ErrIo", laid_turnstile_api_ErrIo), ("turnstile/api.ErrDown", laid_turnstile_api_ErrDown), ("turnstile/api.ErrGone", laid_turnstile_api_ErrGone), ("turnstile/api.ErrThere", laid_turnstile_api_ErrThere), ("turnstile/api.ErrNil", laid_turnstile_api_ErrNil)] }
def DiskSectorsSaid : Prop := diskSectorsRow.holds Tryz.pinned (OpenSpec.ofChange diskSectorsSpec)

/-- ITS FALSE NEIGHBOUR: 'it returns false'. Refute it at one input. -/
def diskSectorsWrong : ChangeSpec := { name := "diskSectors", fn := fun _ => fun
  | [d1, d2, d3] => { results := [.lit (.bool false)], args := [d1, d2, d3] }
  | _ => none }
def DiskSectorsWrongFalsely : Prop := diskSectorsRow.holds Tryz.pinned (OpenSpec.ofChange diskSectorsWrong)

/-- 'turnstilelaw07.DiskScripts': WHATEVER THE INPUT: true; the input reads as it did. -/
def diskScriptsSpec : ChangeSpec := { name := "diskScripts", fn := fun _ => fun
  | [d1, d2] => { results := [.lit (.bool true)], args := [d1, d2] }
  | _ => none }
def diskScriptsRow : OpenClaim := { program := "ytglhedahannjiaagreatdoor", sum := "b0588d74a54d8b91ca07713203dbe93c70e0ca23cac9b3886680c69a7fe23f35", func := "turnstile/turnstilelaw07.DiskScripts", spec := "diskScripts", inPlace := ["internal/reflectlite.TypeOf"], unfollowed := true, recurses := true, named := ["turnstile/api.ErrThere", "turnstile/api.ErrArg", "turnstile/api.ErrNil", "turnstile/api.ErrDown", "turnstile/api.ErrIo", "turnstile/api.ErrGone", "turnstile/api.ErrImage", "turnstile/api.ErrShort", "turnstile/api.ErrForm", "turnstile/api.ErrLong", "turnstile/api.ErrSum", "turnstile/api.ErrGap", "turnstile/api.ErrLog", "turnstile/api.ErrSick", "turnstile/api.ErrConfig"], apart := false, laid := [("turnstile/api.ErrArg", laid_turnstile_api_ErrArg), ("turnstile/api.ErrShort", laid_turnstile_api_ErrShort), ("turnstile/api.ErrForm", laid_turnstile_api_ErrForm), ("turnstile/api.ErrLong", laid_turnstile_api_ErrLong), ("turnstile/api.ErrSum", laid_turnstile_api_ErrSum), ("turnstile/api.ErrIo", laid_turnstile_api_ErrIo), ("turnstile/api.ErrDown", laid_turnstile_api_ErrDown), ("turnstile/api.ErrGone", laid_turnstile_api_ErrGone), ("turnstile/api.ErrThere", laid_turnstile_api_ErrThere), ("turnstile/api.ErrImage", laid_turnstile_api_ErrImage), ("turnstile/api.ErrGap", laid_turnstile_api_ErrGap), ("turnstile/api.ErrLog", laid_turnstile_api_ErrLog), ("turnstile/api.ErrSick", laid_turnstile_api_ErrSick), ("turnstile/api.ErrConfig", laid_turnstile_api_ErrConfig), ("turnstile/api.ErrNil", laid_turnstile_api_ErrNil)] }
def DiskScriptsSaid : Prop := diskScriptsRow.holds Tryz.pinned (OpenSpec.ofChange diskScriptsSpec)

/-- ITS FALSE NEIGHBOUR: 'it returns false'. Refute it at one input. -/
def diskScriptsWrong : ChangeSpec := { name := "diskScripts", fn := fun _ => fun
  | [d1, d2] => { results := [.lit (.bool false)], args := [d1, d2] }
  | _ => none }
def DiskScriptsWrongFalsely : Prop := diskScriptsRow.holds Tryz.pinned (OpenSpec.ofChange diskScriptsWrong)

/-- 'turnstilelaw07.DiskKept': WHATEVER THE INPUT: true; the input reads as it did. -/
def diskKeptSpec : ChangeSpec := { name := "diskKept", fn := fun _ => fun
  | [d1, d2, d3] => { results := [.lit (.bool true)], args := [d1, d2, d3] }
  | _ => none }
def diskKeptRow : OpenClaim := { program := "ytglhedahannjiaagreatdoor", sum := "b0588d74a54d8b91ca07713203dbe93c70e0ca23cac9b3886680c69a7fe23f35", func := "turnstile/turnstilelaw07.DiskKept", spec := "diskKept", inPlace := ["internal/reflectlite.TypeOf"], unfollowed := true, recurses := true, named := ["turnstile/api.ErrThere", "turnstile/api.ErrArg", "turnstile/api.ErrNil", "turnstile/api.ErrDown", "turnstile/api.ErrIo", "turnstile/api.ErrGone", "turnstile/api.ErrImage", "turnstile/api.ErrShort", "turnstile/api.ErrForm", "turnstile/api.ErrLong", "turnstile/api.ErrSum", "turnstile/api.ErrGap", "turnstile/api.ErrLog", "turnstile/api.ErrSick", "turnstile/api.ErrConfig"], apart := false, laid := [("turnstile/api.ErrArg", laid_turnstile_api_ErrArg), ("turnstile/api.ErrShort", laid_turnstile_api_ErrShort), ("turnstile/api.ErrForm", laid_turnstile_api_ErrForm), ("turnstile/api.ErrLong", laid_turnstile_api_ErrLong), ("turnstile/api.ErrSum", laid_turnstile_api_ErrSum), ("turnstile/api.ErrIo", laid_turnstile_api_ErrIo), ("turnstile/api.ErrDown", laid_turnstile_api_ErrDown), ("turnstile/api.ErrGone", laid_turnstile_api_ErrGone), ("turnstile/api.ErrThere", laid_turnstile_api_ErrThere), ("turnstile/api.ErrImage", laid_turnstile_api_ErrImage), ("turnstile/api.ErrGap", laid_turnstile_api_ErrGap), ("turnstile/api.ErrLog", laid_turnstile_api_ErrLog), ("turnstile/api.ErrSick", laid_turnstile_api_ErrSick), ("turnstile/api.ErrConfig", laid_turnstile_api_ErrConfig), ("turnstile/api.ErrNil", laid_turnstile_api_ErrNil)] }
def DiskKeptSaid : Prop := diskKeptRow.holds Tryz.pinned (OpenSpec.ofChange diskKeptSpec)

/-- ITS FALSE NEIGHBOUR: 'it returns false'. Refute it at one input. -/
def diskKeptWrong : ChangeSpec := { name := "diskKept", fn := fun _ => fun
  | [d1, d2, d3] => { results := [.lit (.bool false)], args := [d1, d2, d3] }
  | _ => none }
def DiskKeptWrongFalsely : Prop := diskKeptRow.holds Tryz.pinned (OpenSpec.ofChange diskKeptWrong)

/-- 'turnstilelaw07.DiskSynced': WHATEVER THE INPUT: true; the input reads as it did. -/
def diskSyncedSpec : ChangeSpec := { name := "diskSynced", fn := fun _ => fun
  | [d1, d2, d3] => { results := [.lit (.bool true)], args := [d1, d2, d3] }
  | _ => none }
def diskSyncedRow : OpenClaim := { program := "ytglhedahannjiaagreatdoor", sum := "b0588d74a54d8b91ca07713203dbe93c70e0ca23cac9b3886680c69a7fe23f35", func := "turnstile/turnstilelaw07.DiskSynced", spec := "diskSynced", inPlace := ["internal/reflectlite.TypeOf"], unfollowed := true, recurses := true, named := ["turnstile/api.ErrThere", "turnstile/api.ErrArg", "turnstile/api.ErrNil", "turnstile/api.ErrDown", "turnstile/api.ErrIo", "turnstile/api.ErrGone", "turnstile/api.ErrImage", "turnstile/api.ErrShort", "turnstile/api.ErrForm", "turnstile/api.ErrLong", "turnstile/api.ErrSum", "turnstile/api.ErrGap", "turnstile/api.ErrLog", "turnstile/api.ErrSick", "turnstile/api.ErrConfig"], apart := false, laid := [("turnstile/api.ErrArg", laid_turnstile_api_ErrArg), ("turnstile/api.ErrShort", laid_turnstile_api_ErrShort), ("turnstile/api.ErrForm", laid_turnstile_api_ErrForm), ("turnstile/api.ErrLong", laid_turnstile_api_ErrLong), ("turnstile/api.ErrSum", laid_turnstile_api_ErrSum), ("turnstile/api.ErrIo", laid_turnstile_api_ErrIo), ("turnstile/api.ErrDown", laid_turnstile_api_ErrDown), ("turnstile/api.ErrGone", laid_turnstile_api_ErrGone), ("turnstile/api.ErrThere", laid_turnstile_api_ErrThere), ("turnstile/api.ErrImage", laid_turnstile_api_ErrImage), ("turnstile/api.ErrGap", laid_turnstile_api_ErrGap), ("turnstile/api.ErrLog", laid_turnstile_api_ErrLog), ("turnstile/api.ErrSick", laid_turnstile_api_ErrSick), ("turnstile/api.ErrConfig", laid_turnstile_api_ErrConfig), ("turnstile/api.ErrNil", laid_turnstile_api_ErrNil)] }
def DiskSyncedSaid : Prop := diskSyncedRow.holds Tryz.pinned (OpenSpec.ofChange diskSyncedSpec)

/-- ITS FALSE NEIGHBOUR: 'it returns false'. Refute it at one input. -/
def diskSyncedWrong : ChangeSpec := { name := "diskSynced", fn := fun _ => fun
  | [d1, d2, d3] => { results := [.lit (.bool false)], args := [d1, d2, d3] }
  | _ => none }
def DiskSyncedWrongFalsely : Prop := diskSyncedRow.holds Tryz.pinned (OpenSpec.ofChange diskSyncedWrong)

/-- 'turnstilelaw07.DiskFails': WHATEVER THE INPUT: true; the input reads as it did. -/
def diskFailsSpec : ChangeSpec := { name := "diskFails", fn := fun _ => fun
  | [d1, d2, d3, d4, d5] => { results := [.lit (.bool true)], args := [d1, d2, d3, d4, d5] }
  | _ => none }
def diskFailsRow : OpenClaim := { program := "ytglhedahannjiaagreatdoor", sum := "b0588d74a54d8b91ca07713203dbe93c70e0ca23cac9b3886680c69a7fe23f35", func := "turnstile/turnstilelaw07.DiskFails", spec := "diskFails", inPlace := ["internal/reflectlite.TypeOf"], unfollowed := true, recurses := true, named := ["turnstile/api.ErrThere", "turnstile/api.ErrArg", "turnstile/api.ErrNil", "turnstile/api.ErrDown", "turnstile/api.ErrIo", "turnstile/api.ErrGone", "turnstile/api.ErrImage", "turnstile/api.ErrShort", "turnstile/api.ErrForm", "turnstile/api.ErrLong", "turnstile/api.ErrSum", "turnstile/api.ErrGap", "turnstile/api.ErrLog", "turnstile/api.ErrSick", "turnstile/api.ErrConfig"], apart := false, laid := [("turnstile/api.ErrArg", laid_turnstile_api_ErrArg), ("turnstile/api.ErrShort", laid_turnstile_api_ErrShort), ("turnstile/api.ErrForm", laid_turnstile_api_ErrForm), ("turnstile/api.ErrLong", laid_turnstile_api_ErrLong), ("turnstile/api.ErrSum", laid_turnstile_api_ErrSum), ("turnstile/api.ErrIo", laid_turnstile_api_ErrIo), ("turnstile/api.ErrDown", laid_turnstile_api_ErrDown), ("turnstile/api.ErrGone", laid_turnstile_api_ErrGone), ("turnstile/api.ErrThere", laid_turnstile_api_ErrThere), ("turnstile/api.ErrImage", laid_turnstile_api_ErrImage), ("turnstile/api.ErrGap", laid_turnstile_api_ErrGap), ("turnstile/api.ErrLog", laid_turnstile_api_ErrLog), ("turnstile/api.ErrSick", laid_turnstile_api_ErrSick), ("turnstile/api.ErrConfig", laid_turnstile_api_ErrConfig), ("turnstile/api.ErrNil", laid_turnstile_api_ErrNil)] }
def DiskFailsSaid : Prop := diskFailsRow.holds Tryz.pinned (OpenSpec.ofChange diskFailsSpec)

/-- ITS FALSE NEIGHBOUR: 'it returns false'. Refute it at one input. -/
def diskFailsWrong : ChangeSpec := { name := "diskFails", fn := fun _ => fun
  | [d1, d2, d3, d4, d5] => { results := [.lit (.bool false)], args := [d1, d2, d3, d4, d5] }
  | _ => none }
def DiskFailsWrongFalsely : Prop := diskFailsRow.holds Tryz.pinned (OpenSpec.ofChange diskFailsWrong)

/-- 'turnstilelaw07.DiskDown': WHATEVER THE INPUT: true; the input reads as it did. -/
def diskDownSpec : ChangeSpec := { name := "diskDown", fn := fun _ => fun
  | [d1, d2, d3, d4, d5] => { results := [.lit (.bool true)], args := [d1, d2, d3, d4, d5] }
  | _ => none }
def diskDownRow : OpenClaim := { program := "ytglhedahannjiaagreatdoor", sum := "b0588d74a54d8b91ca07713203dbe93c70e0ca23cac9b3886680c69a7fe23f35", func := "turnstile/turnstilelaw07.DiskDown", spec := "diskDown", inPlace := ["internal/reflectlite.TypeOf"], unfollowed := true, recurses := true, named := ["turnstile/api.ErrThere", "turnstile/api.ErrArg", "turnstile/api.ErrNil", "turnstile/api.ErrDown", "turnstile/api.ErrIo", "turnstile/api.ErrGone", "turnstile/api.ErrImage", "turnstile/api.ErrShort", "turnstile/api.ErrForm", "turnstile/api.ErrLong", "turnstile/api.ErrSum", "turnstile/api.ErrGap", "turnstile/api.ErrLog", "turnstile/api.ErrSick", "turnstile/api.ErrConfig"], apart := false, laid := [("turnstile/api.ErrArg", laid_turnstile_api_ErrArg), ("turnstile/api.ErrShort", laid_turnstile_api_ErrShort), ("turnstile/api.ErrForm", laid_turnstile_api_ErrForm), ("turnstile/api.ErrLong", laid_turnstile_api_ErrLong), ("turnstile/api.ErrSum", laid_turnstile_api_ErrSum), ("turnstile/api.ErrIo", laid_turnstile_api_ErrIo), ("turnstile/api.ErrDown", laid_turnstile_api_ErrDown), ("turnstile/api.ErrGone", laid_turnstile_api_ErrGone), ("turnstile/api.ErrThere", laid_turnstile_api_ErrThere), ("turnstile/api.ErrImage", laid_turnstile_api_ErrImage), ("turnstile/api.ErrGap", laid_turnstile_api_ErrGap), ("turnstile/api.ErrLog", laid_turnstile_api_ErrLog), ("turnstile/api.ErrSick", laid_turnstile_api_ErrSick), ("turnstile/api.ErrConfig", laid_turnstile_api_ErrConfig), ("turnstile/api.ErrNil", laid_turnstile_api_ErrNil)] }
def DiskDownSaid : Prop := diskDownRow.holds Tryz.pinned (OpenSpec.ofChange diskDownSpec)

/-- ITS FALSE NEIGHBOUR: 'it returns false'. Refute it at one input. -/
def diskDownWrong : ChangeSpec := { name := "diskDown", fn := fun _ => fun
  | [d1, d2, d3, d4, d5] => { results := [.lit (.bool false)], args := [d1, d2, d3, d4, d5] }
  | _ => none }
def DiskDownWrongFalsely : Prop := diskDownRow.holds Tryz.pinned (OpenSpec.ofChange diskDownWrong)

/-- 'turnstilelaw07.DiskKeeps': WHATEVER THE INPUT: true; the input reads as it did. -/
def diskKeepsSpec : ChangeSpec := { name := "diskKeeps", fn := fun _ => fun
  | [d1, d2, d3] => { results := [.lit (.bool true)], args := [d1, d2, d3] }
  | _ => none }
def diskKeepsRow : OpenClaim := { program := "ytglhedahannjiaagreatdoor", sum := "b0588d74a54d8b91ca07713203dbe93c70e0ca23cac9b3886680c69a7fe23f35", func := "turnstile/turnstilelaw07.DiskKeeps", spec := "diskKeeps", inPlace := ["internal/reflectlite.TypeOf"], unfollowed := true, recurses := true, named := ["turnstile/api.ErrThere", "turnstile/api.ErrArg", "turnstile/api.ErrNil", "turnstile/api.ErrDown", "turnstile/api.ErrIo", "turnstile/api.ErrGone", "turnstile/api.ErrImage", "turnstile/api.ErrShort", "turnstile/api.ErrForm", "turnstile/api.ErrLong", "turnstile/api.ErrSum", "turnstile/api.ErrGap", "turnstile/api.ErrLog", "turnstile/api.ErrSick", "turnstile/api.ErrConfig"], apart := false, laid := [("turnstile/api.ErrArg", laid_turnstile_api_ErrArg), ("turnstile/api.ErrShort", laid_turnstile_api_ErrShort), ("turnstile/api.ErrForm", laid_turnstile_api_ErrForm), ("turnstile/api.ErrLong", laid_turnstile_api_ErrLong), ("turnstile/api.ErrSum", laid_turnstile_api_ErrSum), ("turnstile/api.ErrIo", laid_turnstile_api_ErrIo), ("turnstile/api.ErrDown", laid_turnstile_api_ErrDown), ("turnstile/api.ErrGone", laid_turnstile_api_ErrGone), ("turnstile/api.ErrThere", laid_turnstile_api_ErrThere), ("turnstile/api.ErrImage", laid_turnstile_api_ErrImage), ("turnstile/api.ErrGap", laid_turnstile_api_ErrGap), ("turnstile/api.ErrLog", laid_turnstile_api_ErrLog), ("turnstile/api.ErrSick", laid_turnstile_api_ErrSick), ("turnstile/api.ErrConfig", laid_turnstile_api_ErrConfig), ("turnstile/api.ErrNil", laid_turnstile_api_ErrNil)] }
def DiskKeepsSaid : Prop := diskKeepsRow.holds Tryz.pinned (OpenSpec.ofChange diskKeepsSpec)

/-- ITS FALSE NEIGHBOUR: 'it returns false'. Refute it at one input. -/
def diskKeepsWrong : ChangeSpec := { name := "diskKeeps", fn := fun _ => fun
  | [d1, d2, d3] => { results := [.lit (.bool false)], args := [d1, d2, d3] }
  | _ => none }
def DiskKeepsWrongFalsely : Prop := diskKeepsRow.holds Tryz.pinned (OpenSpec.ofChange diskKeepsWrong)

/- THE SECOND FORM. 'bulk': how many values and letters a reading holds, each counted each time it is reached (what is shared counts as often as it is met; a slice's spare places count too). A statement '..UptoSaid' is the law's where the arguments, and the package variables that the reading takes, are together of bulk at most 1048576: NARROWER than '..Said'. Prove '..Said' where nothing that the law and all that it calls make is longer than what came in: it says more and counts as full. Else prove '..UptoSaid'. A law counts once. -/
mutual
def uptoBulk {H : Type} : DataW H → Nat
  | .lit (.string bytes) => bytes.length + 1
  | .lit _ => 1
  | .nil => 1
  | .ptr d => uptoBulk d + 1
  | .slice elems spare => uptoBulkAll elems + uptoBulkAll spare + 1
  | .agg parts => uptoBulkAll parts + 1
  | .iface _ d => uptoBulk d + 1
  | .map entries => uptoBulkEntries entries + 1
  | .held _ => 1
def uptoBulkAll {H : Type} : List (DataW H) → Nat
  | [] => 0
  | d :: r => uptoBulk d + uptoBulkAll r
def uptoBulkEntries {H : Type} : List (Lit × DataW H) → Nat
  | [] => 0
  | x :: r => uptoBulkEntry x + uptoBulkEntries r
def uptoBulkEntry {H : Type} : Lit × DataW H → Nat
  | (.string bytes, d) => bytes.length + uptoBulk d + 1
  | (_, d) => uptoBulk d + 1
 end
def uptoSmall : (H : Type) → List (DataW H) → Bool := fun _ ds => decide (uptoBulkAll ds ≤ 1048576)
def OpenSpec.upto (s : _root_.Go.ChangeSpec) : _root_.Go.OpenSpec := { _root_.Go.OpenSpec.ofChange s with cond := some uptoSmall }

/-- 'turnstilelaw07.DiskSectors', WHERE WHAT IT READS IS OF BULK AT MOST 1048576: true; the input reads as it did. -/
def diskSectorsUptoRow : OpenClaim := { program := "ytglhedahannjiaagreatdoor", sum := "b0588d74a54d8b91ca07713203dbe93c70e0ca23cac9b3886680c69a7fe23f35", func := "turnstile/turnstilelaw07.DiskSectors", spec := "diskSectors", inPlace := ["internal/reflectlite.TypeOf"], unfollowed := true, recurses := true, named := ["turnstile/api.ErrThere", "turnstile/api.ErrArg", "turnstile/api.ErrNil", "turnstile/api.ErrDown", "turnstile/api.ErrIo", "turnstile/api.ErrGone"], apart := false, laid := [("turnstile/api.ErrArg", laid_turnstile_api_ErrArg), ("turnstile/api.ErrIo", laid_turnstile_api_ErrIo), ("turnstile/api.ErrDown", laid_turnstile_api_ErrDown), ("turnstile/api.ErrGone", laid_turnstile_api_ErrGone), ("turnstile/api.ErrThere", laid_turnstile_api_ErrThere), ("turnstile/api.ErrNil", laid_turnstile_api_ErrNil)], narrowed := true }
def DiskSectorsUptoSaid : Prop := diskSectorsUptoRow.holds Tryz.pinned (OpenSpec.upto diskSectorsSpec)

/-- 'turnstilelaw07.DiskScripts', WHERE WHAT IT READS IS OF BULK AT MOST 1048576: true; the input reads as it did. -/
def diskScriptsUptoRow : OpenClaim := { program := "ytglhedahannjiaagreatdoor", sum := "b0588d74a54d8b91ca07713203dbe93c70e0ca23cac9b3886680c69a7fe23f35", func := "turnstile/turnstilelaw07.DiskScripts", spec := "diskScripts", inPlace := ["internal/reflectlite.TypeOf"], unfollowed := true, recurses := true, named := ["turnstile/api.ErrThere", "turnstile/api.ErrArg", "turnstile/api.ErrNil", "turnstile/api.ErrDown", "turnstile/api.ErrIo", "turnstile/api.ErrGone", "turnstile/api.ErrImage", "turnstile/api.ErrShort", "turnstile/api.ErrForm", "turnstile/api.ErrLong", "turnstile/api.ErrSum", "turnstile/api.ErrGap", "turnstile/api.ErrLog", "turnstile/api.ErrSick", "turnstile/api.ErrConfig"], apart := false, laid := [("turnstile/api.ErrArg", laid_turnstile_api_ErrArg), ("turnstile/api.ErrShort", laid_turnstile_api_ErrShort), ("turnstile/api.ErrForm", laid_turnstile_api_ErrForm), ("turnstile/api.ErrLong", laid_turnstile_api_ErrLong), ("turnstile/api.ErrSum", laid_turnstile_api_ErrSum), ("turnstile/api.ErrIo", laid_turnstile_api_ErrIo), ("turnstile/api.ErrDown", laid_turnstile_api_ErrDown), ("turnstile/api.ErrGone", laid_turnstile_api_ErrGone), ("turnstile/api.ErrThere", laid_turnstile_api_ErrThere), ("turnstile/api.ErrImage", laid_turnstile_api_ErrImage), ("turnstile/api.ErrGap", laid_turnstile_api_ErrGap), ("turnstile/api.ErrLog", laid_turnstile_api_ErrLog), ("turnstile/api.ErrSick", laid_turnstile_api_ErrSick), ("turnstile/api.ErrConfig", laid_turnstile_api_ErrConfig), ("turnstile/api.ErrNil", laid_turnstile_api_ErrNil)], narrowed := true }
def DiskScriptsUptoSaid : Prop := diskScriptsUptoRow.holds Tryz.pinned (OpenSpec.upto diskScriptsSpec)

/-- 'turnstilelaw07.DiskKept', WHERE WHAT IT READS IS OF BULK AT MOST 1048576: true; the input reads as it did. -/
def diskKeptUptoRow : OpenClaim := { program := "ytglhedahannjiaagreatdoor", sum := "b0588d74a54d8b91ca07713203dbe93c70e0ca23cac9b3886680c69a7fe23f35", func := "turnstile/turnstilelaw07.DiskKept", spec := "diskKept", inPlace := ["internal/reflectlite.TypeOf"], unfollowed := true, recurses := true, named := ["turnstile/api.ErrThere", "turnstile/api.ErrArg", "turnstile/api.ErrNil", "turnstile/api.ErrDown", "turnstile/api.ErrIo", "turnstile/api.ErrGone", "turnstile/api.ErrImage", "turnstile/api.ErrShort", "turnstile/api.ErrForm", "turnstile/api.ErrLong", "turnstile/api.ErrSum", "turnstile/api.ErrGap", "turnstile/api.ErrLog", "turnstile/api.ErrSick", "turnstile/api.ErrConfig"], apart := false, laid := [("turnstile/api.ErrArg", laid_turnstile_api_ErrArg), ("turnstile/api.ErrShort", laid_turnstile_api_ErrShort), ("turnstile/api.ErrForm", laid_turnstile_api_ErrForm), ("turnstile/api.ErrLong", laid_turnstile_api_ErrLong), ("turnstile/api.ErrSum", laid_turnstile_api_ErrSum), ("turnstile/api.ErrIo", laid_turnstile_api_ErrIo), ("turnstile/api.ErrDown", laid_turnstile_api_ErrDown), ("turnstile/api.ErrGone", laid_turnstile_api_ErrGone), ("turnstile/api.ErrThere", laid_turnstile_api_ErrThere), ("turnstile/api.ErrImage", laid_turnstile_api_ErrImage), ("turnstile/api.ErrGap", laid_turnstile_api_ErrGap), ("turnstile/api.ErrLog", laid_turnstile_api_ErrLog), ("turnstile/api.ErrSick", laid_turnstile_api_ErrSick), ("turnstile/api.ErrConfig", laid_turnstile_api_ErrConfig), ("turnstile/api.ErrNil", laid_turnstile_api_ErrNil)], narrowed := true }
def DiskKeptUptoSaid : Prop := diskKeptUptoRow.holds Tryz.pinned (OpenSpec.upto diskKeptSpec)

/-- 'turnstilelaw07.DiskSynced', WHERE WHAT IT READS IS OF BULK AT MOST 1048576: true; the input reads as it did. -/
def diskSyncedUptoRow : OpenClaim := { program := "ytglhedahannjiaagreatdoor", sum := "b0588d74a54d8b91ca07713203dbe93c70e0ca23cac9b3886680c69a7fe23f35", func := "turnstile/turnstilelaw07.DiskSynced", spec := "diskSynced", inPlace := ["internal/reflectlite.TypeOf"], unfollowed := true, recurses := true, named := ["turnstile/api.ErrThere", "turnstile/api.ErrArg", "turnstile/api.ErrNil", "turnstile/api.ErrDown", "turnstile/api.ErrIo", "turnstile/api.ErrGone", "turnstile/api.ErrImage", "turnstile/api.ErrShort", "turnstile/api.ErrForm", "turnstile/api.ErrLong", "turnstile/api.ErrSum", "turnstile/api.ErrGap", "turnstile/api.ErrLog", "turnstile/api.ErrSick", "turnstile/api.ErrConfig"], apart := false, laid := [("turnstile/api.ErrArg", laid_turnstile_api_ErrArg), ("turnstile/api.ErrShort", laid_turnstile_api_ErrShort), ("turnstile/api.ErrForm", laid_turnstile_api_ErrForm), ("turnstile/api.ErrLong", laid_turnstile_api_ErrLong), ("turnstile/api.ErrSum", laid_turnstile_api_ErrSum), ("turnstile/api.ErrIo", laid_turnstile_api_ErrIo), ("turnstile/api.ErrDown", laid_turnstile_api_ErrDown), ("turnstile/api.ErrGone", laid_turnstile_api_ErrGone), ("turnstile/api.ErrThere", laid_turnstile_api_ErrThere), ("turnstile/api.ErrImage", laid_turnstile_api_ErrImage), ("turnstile/api.ErrGap", laid_turnstile_api_ErrGap), ("turnstile/api.ErrLog", laid_turnstile_api_ErrLog), ("turnstile/api.ErrSick", laid_turnstile_api_ErrSick), ("turnstile/api.ErrConfig", laid_turnstile_api_ErrConfig), ("turnstile/api.ErrNil", laid_turnstile_api_ErrNil)], narrowed := true }
def DiskSyncedUptoSaid : Prop := diskSyncedUptoRow.holds Tryz.pinned (OpenSpec.upto diskSyncedSpec)

/-- 'turnstilelaw07.DiskFails', WHERE WHAT IT READS IS OF BULK AT MOST 1048576: true; the input reads as it did. -/
def diskFailsUptoRow : OpenClaim := { program := "ytglhedahannjiaagreatdoor", sum := "b0588d74a54d8b91ca07713203dbe93c70e0ca23cac9b3886680c69a7fe23f35", func := "turnstile/turnstilelaw07.DiskFails", spec := "diskFails", inPlace := ["internal/reflectlite.TypeOf"], unfollowed := true, recurses := true, named := ["turnstile/api.ErrThere", "turnstile/api.ErrArg", "turnstile/api.ErrNil", "turnstile/api.ErrDown", "turnstile/api.ErrIo", "turnstile/api.ErrGone", "turnstile/api.ErrImage", "turnstile/api.ErrShort", "turnstile/api.ErrForm", "turnstile/api.ErrLong", "turnstile/api.ErrSum", "turnstile/api.ErrGap", "turnstile/api.ErrLog", "turnstile/api.ErrSick", "turnstile/api.ErrConfig"], apart := false, laid := [("turnstile/api.ErrArg", laid_turnstile_api_ErrArg), ("turnstile/api.ErrShort", laid_turnstile_api_ErrShort), ("turnstile/api.ErrForm", laid_turnstile_api_ErrForm), ("turnstile/api.ErrLong", laid_turnstile_api_ErrLong), ("turnstile/api.ErrSum", laid_turnstile_api_ErrSum), ("turnstile/api.ErrIo", laid_turnstile_api_ErrIo), ("turnstile/api.ErrDown", laid_turnstile_api_ErrDown), ("turnstile/api.ErrGone", laid_turnstile_api_ErrGone), ("turnstile/api.ErrThere", laid_turnstile_api_ErrThere), ("turnstile/api.ErrImage", laid_turnstile_api_ErrImage), ("turnstile/api.ErrGap", laid_turnstile_api_ErrGap), ("turnstile/api.ErrLog", laid_turnstile_api_ErrLog), ("turnstile/api.ErrSick", laid_turnstile_api_ErrSick), ("turnstile/api.ErrConfig", laid_turnstile_api_ErrConfig), ("turnstile/api.ErrNil", laid_turnstile_api_ErrNil)], narrowed := true }
def DiskFailsUptoSaid : Prop := diskFailsUptoRow.holds Tryz.pinned (OpenSpec.upto diskFailsSpec)

/-- 'turnstilelaw07.DiskDown', WHERE WHAT IT READS IS OF BULK AT MOST 1048576: true; the input reads as it did. -/
def diskDownUptoRow : OpenClaim := { program := "ytglhedahannjiaagreatdoor", sum := "b0588d74a54d8b91ca07713203dbe93c70e0ca23cac9b3886680c69a7fe23f35", func := "turnstile/turnstilelaw07.DiskDown", spec := "diskDown", inPlace := ["internal/reflectlite.TypeOf"], unfollowed := true, recurses := true, named := ["turnstile/api.ErrThere", "turnstile/api.ErrArg", "turnstile/api.ErrNil", "turnstile/api.ErrDown", "turnstile/api.ErrIo", "turnstile/api.ErrGone", "turnstile/api.ErrImage", "turnstile/api.ErrShort", "turnstile/api.ErrForm", "turnstile/api.ErrLong", "turnstile/api.ErrSum", "turnstile/api.ErrGap", "turnstile/api.ErrLog", "turnstile/api.ErrSick", "turnstile/api.ErrConfig"], apart := false, laid := [("turnstile/api.ErrArg", laid_turnstile_api_ErrArg), ("turnstile/api.ErrShort", laid_turnstile_api_ErrShort), ("turnstile/api.ErrForm", laid_turnstile_api_ErrForm), ("turnstile/api.ErrLong", laid_turnstile_api_ErrLong), ("turnstile/api.ErrSum", laid_turnstile_api_ErrSum), ("turnstile/api.ErrIo", laid_turnstile_api_ErrIo), ("turnstile/api.ErrDown", laid_turnstile_api_ErrDown), ("turnstile/api.ErrGone", laid_turnstile_api_ErrGone), ("turnstile/api.ErrThere", laid_turnstile_api_ErrThere), ("turnstile/api.ErrImage", laid_turnstile_api_ErrImage), ("turnstile/api.ErrGap", laid_turnstile_api_ErrGap), ("turnstile/api.ErrLog", laid_turnstile_api_ErrLog), ("turnstile/api.ErrSick", laid_turnstile_api_ErrSick), ("turnstile/api.ErrConfig", laid_turnstile_api_ErrConfig), ("turnstile/api.ErrNil", laid_turnstile_api_ErrNil)], narrowed := true }
def DiskDownUptoSaid : Prop := diskDownUptoRow.holds Tryz.pinned (OpenSpec.upto diskDownSpec)

/-- 'turnstilelaw07.DiskKeeps', WHERE WHAT IT READS IS OF BULK AT MOST 1048576: true; the input reads as it did. -/
def diskKeepsUptoRow : OpenClaim := { program := "ytglhedahannjiaagreatdoor", sum := "b0588d74a54d8b91ca07713203dbe93c70e0ca23cac9b3886680c69a7fe23f35", func := "turnstile/turnstilelaw07.DiskKeeps", spec := "diskKeeps", inPlace := ["internal/reflectlite.TypeOf"], unfollowed := true, recurses := true, named := ["turnstile/api.ErrThere", "turnstile/api.ErrArg", "turnstile/api.ErrNil", "turnstile/api.ErrDown", "turnstile/api.ErrIo", "turnstile/api.ErrGone", "turnstile/api.ErrImage", "turnstile/api.ErrShort", "turnstile/api.ErrForm", "turnstile/api.ErrLong", "turnstile/api.ErrSum", "turnstile/api.ErrGap", "turnstile/api.ErrLog", "turnstile/api.ErrSick", "turnstile/api.ErrConfig"], apart := false, laid := [("turnstile/api.ErrArg", laid_turnstile_api_ErrArg), ("turnstile/api.ErrShort", laid_turnstile_api_ErrShort), ("turnstile/api.ErrForm", laid_turnstile_api_ErrForm), ("turnstile/api.ErrLong", laid_turnstile_api_ErrLong), ("turnstile/api.ErrSum", laid_turnstile_api_ErrSum), ("turnstile/api.ErrIo", laid_turnstile_api_ErrIo), ("turnstile/api.ErrDown", laid_turnstile_api_ErrDown), ("turnstile/api.ErrGone", laid_turnstile_api_ErrGone), ("turnstile/api.ErrThere", laid_turnstile_api_ErrThere), ("turnstile/api.ErrImage", laid_turnstile_api_ErrImage), ("turnstile/api.ErrGap", laid_turnstile_api_ErrGap), ("turnstile/api.ErrLog", laid_turnstile_api_ErrLog), ("turnstile/api.ErrSick", laid_turnstile_api_ErrSick), ("turnstile/api.ErrConfig", laid_turnstile_api_ErrConfig), ("turnstile/api.ErrNil", laid_turnstile_api_ErrNil)], narrowed := true }
def DiskKeepsUptoSaid : Prop := diskKeepsUptoRow.holds Tryz.pinned (OpenSpec.upto diskKeepsSpec)

end Rows
end Go.Proofs.YtglhedahannjiaaGreatDoor
