/- A part of the proof of segmentCuts_holds: what is wanted besides. No condition. -/
import Derived.StillTailTactics
import Derived.Test.YtpckkdjdjkjapaaGreatDoorC29

/- The disk as plain data: what each call does (no program in sight). -/
namespace Go.Proofs.YtpckkdjdjkjapaaGreatDoor.Dm
set_option linter.unusedVariables false
def cutBad (b : Nat → Bool) (n : Int) : Nat → Bool := fun k => b k && decide ((k : Int) * 512 < n)
def FileS.trunc (n : Int) (f : FileS) : FileS :=
  { seen := f.seen.take n.toNat, safe := f.safe.take n.toNat, badSeen := cutBad f.badSeen n, badSafe := cutBad f.badSafe n, waits := cutBad f.waits n }
def Disk.seenLen (d : Disk) (n : Name) : Nat := match find d.now n with | some i => (d.files[i]?.map (·.seen.length)).getD 0 | none => 0
def Disk.refuseTrunc (d : Disk) (n : Name) (k : Int) : Err :=
  if d.gone n ≠ 0 then d.gone n else if k < 0 ∨ k % 512 ≠ 0 ∨ k > d.seenLen n then eArg else 0
def Disk.truncate (d : Disk) (n : Name) (k : Int) : Err × Disk := d.run (d.refuseTrunc n k) (Disk.onFile n (FileS.trunc k)) false none
end Go.Proofs.YtpckkdjdjkjapaaGreatDoor.Dm


/- The pure disk: what holds of every disk that the calls make. -/
namespace Go.Proofs.YtpckkdjdjkjapaaGreatDoor.Dm
set_option linter.unusedVariables false
theorem FOK.trunc {f : FileS} (h : FOK f) (n : Int) (h0 : 0 ≤ n) (h5 : n % 512 = 0) (hn : n ≤ f.seen.length) : FOK (f.trunc n) := by
  obtain ⟨m, rfl⟩ := Int.eq_ofNat_of_zero_le h0
  have hs := h.sub
  have key : ∀ (b : Nat → Bool) k, cutBad b (m : Int) k = true ↔ b k = true ∧ k * 512 < m := by
    intro b k; unfold cutBad; rw [Bool.and_eq_true, decide_eq_true_eq]
    exact and_congr_right fun _ => ⟨fun h => by omega, fun h => by omega⟩
  have key2 : ∀ (b : Nat → Bool) k, cutBad b (m : Int) k = (b k && decide (k * 512 < m)) := by
    intro b k; rw [Bool.eq_iff_iff, key]; simp only [Bool.and_eq_true, decide_eq_true_eq]
  unfold FileS.trunc
  simp only [Int.toNat_natCast]
  constructor
  · show (f.safe.take m).length ≤ (f.seen.take m).length; simp; omega
  · intro i hw
    show (f.seen.take m)[i]? = (f.safe.take m)[i]?
    rcases Nat.lt_or_ge i m with hi | hi
    · rw [List.getElem?_take_of_lt hi, List.getElem?_take_of_lt hi]
      refine h.agree i ?_
      change cutBad f.waits (m : Int) (i / 512) = false at hw
      rw [key2] at hw
      have : decide (i / 512 * 512 < m) = true := by simp; omega
      rw [this, Bool.and_true] at hw
      exact hw
    · rw [List.getElem?_eq_none (by simp; omega), List.getElem?_eq_none (by simp; omega)]
  · intro k hw
    show cutBad f.badSeen (m : Int) k = cutBad f.badSafe (m : Int) k
    change cutBad f.waits (m : Int) k = false at hw
    rw [key2] at hw ⊢
    rw [key2]
    cases hd : decide (k * 512 < m) with
    | false => simp
    | true => rw [hd, Bool.and_true] at hw; rw [h.agreeBad k hw]
  · intro k hw
    have h1 := (key _ _).1 hw
    have h2 := h.wlt k h1.1
    show k < sectors (f.seen.take m).length
    rw [sectors_lt] at h2 ⊢; rw [List.length_take]; omega
  · intro k hw
    have h1 := (key _ _).1 hw
    show cutBad f.badSeen (m : Int) k = false
    rw [key2, h.wbad k h1.1]; rfl
  · intro k hb
    have h1 := (key _ _).1 hb
    show k < sectors (f.seen.take m).length
    rw [sectors_lt, List.length_take]; omega
  · intro k hb
    have h1 := (key _ _).1 hb
    have h2 := h.bsafe k h1.1
    show k < sectors (f.safe.take m).length
    rw [sectors_lt] at h2 ⊢; rw [List.length_take]; omega
  · intro i hb
    have h1 := (key _ _).1 hb
    have h2 := h.zseen i h1.1
    show (f.seen.take m).getD i 0 = 0
    rw [List.getD_eq_getElem?_getD] at h2 ⊢
    rw [List.getElem?_take]
    split
    · exact h2
    · rfl
  · intro i hb
    have h1 := (key _ _).1 hb
    have h2 := h.zsafe i h1.1
    show (f.safe.take m).getD i 0 = 0
    rw [List.getD_eq_getElem?_getD] at h2 ⊢
    rw [List.getElem?_take]
    split
    · exact h2
    · rfl
  · exact fun x hx => h.byteSeen x (List.mem_of_mem_take hx)
  · exact fun x hx => h.byteSafe x (List.mem_of_mem_take hx)
/-! ### Names -/
theorem Inv.opTruncate {D : Disk} (h : Inv D) (n : Name) (k : Int) : Inv (D.truncate n k).2 := by
  refine h.run (fun hr D1 hD => (h.tickDark hD).1.onFile fun i f hi hf hok => ?_) (fun _ p n hp => by cases hp)
  obtain ⟨_, h2, h3⟩ := h.tickDark hD
  unfold Disk.refuseTrunc at hr
  split at hr
  · rename_i hne; exact absurd hr hne
  · split at hr
    · cases hr
    · rename_i hc
      simp only [not_or, Int.not_lt] at hc
      rw [h2] at hi
      rw [h3] at hf
      have hs : D.seenLen n = f.seen.length := by unfold Disk.seenLen; rw [hi]; simp [hf]
      have h0 := hc.1
      have h1 := hc.2.1
      have h4 := hc.2.2
      exact hok.trunc k h0 (by omega) (by omega)
end Go.Proofs.YtpckkdjdjkjapaaGreatDoor.Dm


/- A disk of one file, and a segment over it, as plain data. -/
namespace Go.Proofs.YtpckkdjdjkjapaaGreatDoor.Dm
set_option linter.unusedVariables false
section
variable {nm : Name} {f : FileS} {D : Disk}
theorem One.seenLen (h : One nm f D) : D.seenLen nm = f.seen.length := by unfold Disk.seenLen; rw [h.find, h.files]; rfl
theorem One.truncQ (h : One nm f D) (hq : Quiet D) (k : Nat) (hk : k * 512 ≤ f.seen.length) : (D.truncate nm ((k * 512 : Nat) : Int)).1 = 0 ∧ One nm (f.trunc ((k * 512 : Nat) : Int)) (D.truncate nm ((k * 512 : Nat) : Int)).2 ∧ Quiet (D.truncate nm ((k * 512 : Nat) : Int)).2 ∧ (D.truncate nm ((k * 512 : Nat) : Int)).2.count = D.count + 1 := by
  have hr : D.refuseTrunc nm ((k * 512 : Nat) : Int) = 0 := by
    unfold Disk.refuseTrunc
    rw [if_neg (by rw [h.gone]; simp), if_neg (by rw [h.seenLen]; omega)]
  have e : D.truncate nm ((k * 512 : Nat) : Int) = (0, Disk.onFile nm (FileS.trunc ((k * 512 : Nat) : Int)) D.tick) := by unfold Disk.truncate; rw [hq.run, if_pos hr]
  rw [e]
  exact ⟨rfl, h.tick.onFile _, hq.ticked.onFile _ _, (onFile_off _ _ _).2.1⟩
end
end Go.Proofs.YtpckkdjdjkjapaaGreatDoor.Dm
namespace Go.Proofs.YtpckkdjdjkjapaaGreatDoor.Sg
open Go.Proofs.YtpckkdjdjkjapaaGreatDoor.Dm
set_option linter.unusedVariables false
end Go.Proofs.YtpckkdjdjkjapaaGreatDoor.Sg


/- What Open finds, as plain data: other bytes behind the blocks, a loss of power. -/
namespace Go.Proofs.YtpckkdjdjkjapaaGreatDoor.Sg
open Go.Proofs.YtpckkdjdjkjapaaGreatDoor.Dm
set_option linter.unusedVariables false
/-- SegmentCuts: behind the cut. -/
theorem cut_seen {f : FileS} {k : Nat} (h : k * 512 ≤ f.seen.length) : (f.trunc ((k * 512 : Nat) : Int)).seen.length = k * 512 := by
  show (f.seen.take _).length = _
  rw [Int.toNat_natCast, List.length_take]; omega
end Go.Proofs.YtpckkdjdjkjapaaGreatDoor.Sg


/- How much groups of records are; bytes of blocks. -/
namespace Go.Proofs.YtpckkdjdjkjapaaGreatDoor.Sg
open Go.Proofs.YtpckkdjdjkjapaaGreatDoor.Dm
set_option linter.unusedVariables false
theorem groupSum_take : ∀ (gs : List Group) (j : Nat), groupSum (gs.take j) ≤ groupSum gs
  | [], j => by simp
  | g :: gs, 0 => by simp [groupSum]
  | g :: gs, j + 1 => by
    rw [List.take_succ_cons, groupSum_cons, groupSum_cons]
    have := groupSum_take gs j
    omega
end Go.Proofs.YtpckkdjdjkjapaaGreatDoor.Sg


/- delete while a map is gone through. -/
namespace Go.Proofs.YtpckkdjdjkjapaaGreatDoor.Mp
open Go.RowKit Go.ChangeMaps
set_option linter.unusedVariables false
set_option linter.unusedSimpArgs false
set_option linter.unusedSectionVars false
section
variable {α : Type} [DecidableEq α] {enc : α → Value} {P : Program} {k e t : TypeId} (w : World) {m : Nat} {l : List (α × Value)}
  {ops : Array Oper} {rest : List Oper} {o : Oper} {a : Act} {Q : Exit → Act → World → Prop}
theorem wpl_delete_iter (hg : o.guard = none) (mo x : Operand) {t2 : TypeId} (hop : o.op = Op.call { callee := Callee.builtin Builtin.delete, args := #[mo, x], argTypes := #[t, t2] }) (K : KeyK P k enc) (ht : P.underlying t = some (.map k e))
    (y : α) (hm : a.eval mo = .map (some m)) (hx : a.eval x = enc y) {it : Nat} {todo : List (α × Value)} (h : IterAt enc w it m l todo) (hy : y ∉ todo.map (·.1))
    (hK : ∀ w', IterAt enc w' it m (delL l y) todo → w.grownBy w' (some m) → w'.heap.size = w.heap.size → wpList P ops Q rest (a.put o.dst (.tuple #[])) w') : wpList P ops Q (o :: rest) a w := by
  refine wpList_plain hg fun K' hK' => ?_
  obtain ⟨w', hrun, h1, h2, h3⟩ := h.delete K ht y hy o.type (t2 := t2)
  unfold Oper.wp
  simp [execOp, hop, resolve, invoke, builtin, hm, hx, hrun, Result.andThen]
  exact hK' _ _ (hK w' h1 h2 h3)
end
end Go.Proofs.YtpckkdjdjkjapaaGreatDoor.Mp


/- A disk with its invariants and its measures: what each call leaves of them. -/
namespace Go.Proofs.YtpckkdjdjkjapaaGreatDoor.Dm
set_option linter.unusedVariables false
theorem Sz.opTruncate {n m : Nat} {D : Disk} (h : Sz n m D) (nm : Name) (k : Int) : Sz (n + 1) m (D.truncate nm k).2 :=
  h.run (Nat.le_refl _) (fun D1 hD => hD.onFile (Nat.le_refl _) fun f hf => by simp only [FileS.trunc, List.length_take]; omega) (fun p k D1 hp => by cases hp)
end Go.Proofs.YtpckkdjdjkjapaaGreatDoor.Dm
namespace Go.Proofs.YtpckkdjdjkjapaaGreatDoor.Dw
open Go.RowKit Go.ChangeMaps Go.Proofs.YtpckkdjdjkjapaaGreatDoor.Mp Go.Proofs.YtpckkdjdjkjapaaGreatDoor.Dm Go.Proofs.YtpckkdjdjkjapaaGreatDoor.Da
set_option linter.unusedVariables false
set_option linter.unusedSimpArgs false
set_option linter.unusedSectionVars false
section
variable {B : Nat} {w : World} {b : Nat} {lab : Nat → Option Lb} {eb : Nat → Addr} {L : List Err} {n m : Nat} {D : Disk}
end
end Go.Proofs.YtpckkdjdjkjapaaGreatDoor.Dw


/- Walks: Truncate's plan. -/
namespace Go.Proofs.YtpckkdjdjkjapaaGreatDoor.Dw
open Go.RowKit Go.ChangeMaps Go.Proofs.YtpckkdjdjkjapaaGreatDoor.Mp Go.Proofs.YtpckkdjdjkjapaaGreatDoor.Dm Go.Proofs.YtpckkdjdjkjapaaGreatDoor.Da
set_option linter.unusedVariables false
set_option linter.unusedSimpArgs false
set_option linter.unusedSectionVars false
theorem _root_.Go.Proofs.YtpckkdjdjkjapaaGreatDoor.Da.RowAt.shape {w : World} {lab : Nat → Option Lb} {p : Lb} {e : TypeId} {size : Nat} {v : Value} {n : Nat} {xs : List Value} (h : RowAt w lab p e size v n xs) : ∃ q c, v = .slice q n c ∧ n ≤ maxLen := by
  rcases h.cells with ⟨rfl, rfl⟩ | ⟨g, cap, rfl, h1, h2, _⟩
  · exact ⟨none, 0, rfl, by decide⟩
  · exact ⟨_, _, rfl, Nat.le_trans h1 h2⟩
set_option maxHeartbeats 8000000 in
set_option maxRecDepth 100000 in
theorem truncate1 {B : Nat} {W : World} {b : Nat} {A : Adr} {lab : Nat → Option Lb} {D : Disk} {eb : Nat → Addr} {L : List Err} (h : DiskAt B W b A lab D) (he : ErrsAt B W eb L) (hw : WF D) (n : Name) (k : Int) (cd cn ck : Nat)
    (hk : -9223372036854775808 ≤ k ∧ k ≤ 9223372036854775807)
    (h1 : W.cell? ⟨cd, 0, none⟩ = some (dptr b)) (h2 : W.cell? ⟨cn, 0, none⟩ = some (.string n)) (h3 : W.cell? ⟨ck, 0, none⟩ = some (.int .i64 k)) :
    Calls Tryz.prog 128 #[.pointer (some ⟨cd, 0, none⟩), .pointer (some ⟨cn, 0, none⟩), .pointer (some ⟨ck, 0, none⟩)] W fun e W' =>
      e = .returned (.agg #[errV eb (D.refuseTrunc n k), .func (.func 129) #[] #[.pointer (some ⟨cd, 0, none⟩), .pointer (some ⟨cn, 0, none⟩), .pointer (some ⟨ck, 0, none⟩)], .bool false, .nilFunc]) ∧ Frm (fun _ => False) W W' := by
  have c0 : W.cell? ⟨b, 0, none⟩ = some (.map (some A.nm)) := main_cell h.blk rfl
  have ca := he.arg
  obtain ⟨n10, n11, n12⟩ := ne2 (World.block_lt_of_cell? W _ h1)
  obtain ⟨n20, n21, n22⟩ := ne2 (World.block_lt_of_cell? W _ h2)
  obtain ⟨n30, n31, n32⟩ := ne2 (World.block_lt_of_cell? W _ h3)
  obtain ⟨n40, n41, n42⟩ := ne2 (World.block_lt_of_cell? W _ ca)
  obtain ⟨n50, n51, n52⟩ := ne2 (World.block_lt_of_cell? W _ c0)
  have key : ∀ o, Calls Tryz.prog 98 #[dptr b, .string n] (W.alloc o) fun e w' => e = .returned (errV eb (D.gone n)) ∧ w' = W.alloc o :=
    fun o => gone_calls (h.alloc o) (he.alloc o) hw.nowN n
  unfold dptr at h1 key
  have KEY := Lib.hid key
  clear key
  obtain ⟨l', hp, hm⟩ := h.names
  have hl := look_names hp hw.nowN A n
  cases hf : find D.now n with
  | none =>
    have hg : D.gone n = eGone := by simp [Disk.gone, hf]
    have hr : D.refuseTrunc n k = eGone := by unfold Disk.refuseTrunc; rw [hg, if_pos (by decide)]
    rw [hr, errV_pos eb eGone (by decide)]
    rw [hg, errV_pos eb eGone (by decide)] at KEY
    clear hr hl hp hm hg hf
    go_enter Tryz.func128, Tryz.ntmps128
    go_wp2_with fail
    refine (KEY.out _).mono ?_
    rintro e w' ⟨rfl, rfl⟩
    go_wp2_with fail
    go_quiet (fail)
    go_wp2
    exact bodyPost_ret (v := .agg #[.iface 320 (.pointer (some (eb 8))), .func (.func 129) #[] #[.pointer (some ⟨cd, 0, none⟩), .pointer (some ⟨cn, 0, none⟩), .pointer (some ⟨ck, 0, none⟩)], .bool false, .nilFunc]) (by simp [results, Tryz.results128, go_sem]) rfl ⟨rfl, (by repeat (first | (with_reducible assumption) | (with_reducible exact Frm.refl _ _) | (with_reducible apply Frm.drewN) | (with_reducible apply Frm.drew) | (with_reducible apply Frm.alloc) | (with_reducible refine Frm.setCell ?_ _ _ (fun h => absurd h (by first | (simp; done) | (simp; omega))))))⟩
  | some i =>
    have hg : D.gone n = 0 := by simp [Disk.gone, hf]
    obtain ⟨f, hff⟩ := WF.file hw hf
    have FF := h.files i f hff
    obtain ⟨sp, sc, hsd, hsl⟩ := FF.seen.shape
    have hlen : D.seenLen n = f.seen.length := by simp [Disk.seenLen, hf, hff]
    have r1 : W.cell? ⟨(A.fa i).fb, 1, none⟩ = some (.slice sp f.seen.length sc) := by rw [← hsd]; exact cell_of FF.blk rfl
    obtain ⟨n60, n61, n62⟩ := ne2 (World.block_lt_of_cell? W _ r1)
    rw [hg, errV_zero] at KEY
    have lk : ∀ (o1 o2 : Obj) nq, (Instr.lookup 96 (.map (some A.nm)) (.string n) false).run Tryz.prog (((W.alloc o1).alloc o2).drewN nq) = .ok (.pointer (some ⟨(A.fa i).fb, 0, none⟩)) (((W.alloc o1).alloc o2).drewN nq) := by
      intro o1 o2 nq
      have hlt := hm.lt
      have hm' : MapAt Value.string (((W.alloc o1).alloc o2).drewN nq) A.nm (l'.map fun p => (p.1, fptr A p.2)) := hm.of_block (by
        show ((W.alloc o1).alloc o2).heap[A.nm]? = _
        rw [blk_alloc_lt (by simp only [World.size_alloc]; omega), blk_alloc_lt hlt])
      have := hm'.lookup kS Tryz.underlying96 (zP _) n false
      rw [this, hl, hf]; rfl
    have mx : maxLen = 9223372036854775807 := by decide
    have hlx : (f.seen.length : Int) ≤ 9223372036854775807 := by omega
    clear hl hp hm hf hff FF hsd mx
    by_cases hlow : k < 0
    · have hr : D.refuseTrunc n k = eArg := by unfold Disk.refuseTrunc; rw [hg, if_neg (by decide), if_pos (.inl hlow)]
      rw [hr, errV_pos eb eArg (by decide)]
      clear hr hg hlen
      go_enter Tryz.func128, Tryz.ntmps128
      go_wp2_with fail
      refine (KEY.out _).mono ?_
      rintro e w' ⟨rfl, rfl⟩
      go_wp2_with fail
      go_quiet (fail)
      go_wp2
      exact bodyPost_ret (v := .agg #[.iface 320 (.pointer (some (eb 1))), .func (.func 129) #[] #[.pointer (some ⟨cd, 0, none⟩), .pointer (some ⟨cn, 0, none⟩), .pointer (some ⟨ck, 0, none⟩)], .bool false, .nilFunc]) (by simp [results, Tryz.results128, go_sem]) rfl ⟨rfl, (by repeat (first | (with_reducible assumption) | (with_reducible exact Frm.refl _ _) | (with_reducible apply Frm.drewN) | (with_reducible apply Frm.drew) | (with_reducible apply Frm.alloc) | (with_reducible refine Frm.setCell ?_ _ _ (fun h => absurd h (by first | (simp; done) | (simp; omega))))))⟩
    · have h0 : 0 ≤ k := by omega
      have hlow' : decide (k < 0) = false := decide_eq_false hlow
      have tm : k.tmod 512 = k % 512 := Int.tmod_eq_emod_of_nonneg h0
      by_cases hrem : k % 512 = 0
      · by_cases hgt : (f.seen.length : Int) < k
        · have hr : D.refuseTrunc n k = eArg := by unfold Disk.refuseTrunc; rw [hg, if_neg (by decide), if_pos (.inr (.inr (by rw [hlen]; exact hgt)))]
          rw [hr, errV_pos eb eArg (by decide)]
          clear hr hg hlen
          go_enter Tryz.func128, Tryz.ntmps128
          go_wp2_with fail
          refine (KEY.out _).mono ?_
          rintro e w' ⟨rfl, rfl⟩
          go_wp2_with fail
          go_quiet (fail)
          go_wp2
          exact bodyPost_ret (v := .agg #[.iface 320 (.pointer (some (eb 1))), .func (.func 129) #[] #[.pointer (some ⟨cd, 0, none⟩), .pointer (some ⟨cn, 0, none⟩), .pointer (some ⟨ck, 0, none⟩)], .bool false, .nilFunc]) (by simp [results, Tryz.results128, go_sem]) rfl ⟨rfl, (by repeat (first | (with_reducible assumption) | (with_reducible exact Frm.refl _ _) | (with_reducible apply Frm.drewN) | (with_reducible apply Frm.drew) | (with_reducible apply Frm.alloc) | (with_reducible refine Frm.setCell ?_ _ _ (fun h => absurd h (by first | (simp; done) | (simp; omega))))))⟩
        · have hr : D.refuseTrunc n k = 0 := by
            unfold Disk.refuseTrunc; rw [hg, if_neg (by decide), if_neg]
            rintro (h | h | h)
            · omega
            · exact h hrem
            · rw [hlen] at h; omega
          rw [hr, errV_zero]
          clear hr hg hlen
          go_enter Tryz.func128, Tryz.ntmps128
          go_wp2_with fail
          refine (KEY.out _).mono ?_
          rintro e w' ⟨rfl, rfl⟩
          go_wp2_with fail
          go_quiet (fail)
          go_wp2
          exact bodyPost_ret (v := .agg #[.nilIface, .func (.func 129) #[] #[.pointer (some ⟨cd, 0, none⟩), .pointer (some ⟨cn, 0, none⟩), .pointer (some ⟨ck, 0, none⟩)], .bool false, .nilFunc]) (by simp [results, Tryz.results128, go_sem]) rfl ⟨rfl, (by repeat (first | (with_reducible assumption) | (with_reducible exact Frm.refl _ _) | (with_reducible apply Frm.drewN) | (with_reducible apply Frm.drew) | (with_reducible apply Frm.alloc) | (with_reducible refine Frm.setCell ?_ _ _ (fun h => absurd h (by first | (simp; done) | (simp; omega))))))⟩
      · have hr : D.refuseTrunc n k = eArg := by unfold Disk.refuseTrunc; rw [hg, if_neg (by decide), if_pos (.inr (.inl hrem))]
        rw [hr, errV_pos eb eArg (by decide)]
        clear hr hg hlen
        go_enter Tryz.func128, Tryz.ntmps128
        go_wp2_with fail
        refine (KEY.out _).mono ?_
        rintro e w' ⟨rfl, rfl⟩
        go_wp2_with fail
        go_quiet (fail)
        go_wp2
        exact bodyPost_ret (v := .agg #[.iface 320 (.pointer (some (eb 1))), .func (.func 129) #[] #[.pointer (some ⟨cd, 0, none⟩), .pointer (some ⟨cn, 0, none⟩), .pointer (some ⟨ck, 0, none⟩)], .bool false, .nilFunc]) (by simp [results, Tryz.results128, go_sem]) rfl ⟨rfl, (by repeat (first | (with_reducible assumption) | (with_reducible exact Frm.refl _ _) | (with_reducible apply Frm.drewN) | (with_reducible apply Frm.drew) | (with_reducible apply Frm.alloc) | (with_reducible refine Frm.setCell ?_ _ _ (fun h => absurd h (by first | (simp; done) | (simp; omega))))))⟩
theorem trunc_bound {D : Disk} {n : Name} {k : Int} (hl : ∀ f, f ∈ D.files → f.seen.length ≤ 4398046511104) (h : D.refuseTrunc n k = 0) : 0 ≤ k ∧ k ≤ 4611686018427387904 := by
  unfold Disk.refuseTrunc at h
  split at h
  · rename_i h1; exact absurd h h1
  · split at h
    · cases h
    · rename_i h1 h2
      have h3 : D.seenLen n ≤ 4398046511104 := by
        unfold Disk.seenLen
        split
        · rename_i i hi
          cases hf : D.files[i]? with
          | none => simp
          | some f => simp; exact hl f (List.mem_of_getElem? hf)
        · exact Nat.zero_le _
      refine ⟨by omega, by omega⟩
end Go.Proofs.YtpckkdjdjkjapaaGreatDoor.Dw


/- Walks: cutTo. -/
namespace Go.Proofs.YtpckkdjdjkjapaaGreatDoor.Dw
open Go.RowKit Go.ChangeMaps Go.Proofs.YtpckkdjdjkjapaaGreatDoor.Mp Go.Proofs.YtpckkdjdjkjapaaGreatDoor.Dm Go.Proofs.YtpckkdjdjkjapaaGreatDoor.Da
set_option linter.unusedVariables false
set_option linter.unusedSimpArgs false
set_option linter.unusedSectionVars false
set_option maxHeartbeats 1000000 in
set_option maxRecDepth 100000 in
theorem cutTo_calls {w : World} {fb o m : Nat} {cs : Array Value} {v : Value} {xs : List Int} {S : Nat → Bool} (hb : w.heap[fb]? = some (.cells cs 113 (0, 0))) (h0 : cs[o]? = some v) (h1 : cs[o + 1]? = some (.map (some m)))
    (hrow : w.ownsRow 0 5 1 v xs.length (u8s xs)) (hnb : v.ownBlock ≠ some fb) (hS : SetAt w m S) (hm : m ≠ fb) (n : Int) (hn0 : 0 ≤ n) (hn : n ≤ 4611686018427387904) (hxs : xs.length ≤ 4611686018427387904) (hk : ∀ k, S k = true → k < 9007199254740992) :
    Calls Tryz.prog 130 #[.pointer (some ⟨fb, o, none⟩), .int .i64 n] w fun e w' => e = .returned (.tuple #[]) ∧ ∃ v', v'.ownBlock = v.ownBlock ∧ w'.heap[fb]? = some (.cells (cs.setIfInBounds o v') 113 (0, 0)) ∧
      (∀ W : World, (∀ g, v.ownBlock = some g → W.heap[g]? = w.heap[g]?) → W.ownsRow 0 5 1 v' (xs.take n.toNat).length (u8s (xs.take n.toNat))) ∧ SetAt w' m (cutBad S n) ∧ Frm (fun k => k = fb ∨ k = m) w w' := by
  obtain ⟨ks, hks, hnd, hmem⟩ := hS
  change MapAt (Value.int .i64) w m (ent ks) at hks
  have hv : (v = .slice none 0 0 ∧ xs.length = 0) ∨ ∃ g c, v = .slice (some ⟨g, 0, none⟩) xs.length c ∧ xs.length ≤ c := by
    rcases hrow.2 with ⟨h1, h2⟩ | ⟨g, cap, cur, hv, _, _, h3, _⟩
    · exact .inl ⟨h1, h2⟩
    · exact .inr ⟨g, cap, hv, h3⟩
  have ho : o < cs.size := (Array.getElem?_eq_some_iff.1 h0).1
  have fblt := blk_lt hb
  have mlt := hks.lt
  have x0 : w.cell? ⟨fb, o, none⟩ = some v := cell_of hb h0
  have x2 : w.frozen? ⟨fb, o, none⟩ = false := frozen_of hb
  have y1 : ∀ v', (w.setCell ⟨fb, o, none⟩ v').cell? ⟨fb, o + 1, none⟩ = some (.map (some m)) := fun v' => by
    refine cell_of (blk_set hb) ?_
    rw [Array.getElem?_setIfInBounds_ne (by omega)]; exact h1
  have M1 : ∀ v', MapAt (Value.int .i64) (w.setCell ⟨fb, o, none⟩ v').drew m (ent ks) := fun v' => hks.of_block (blk_set_ne hm)
  have F1 : ∀ v', Frm (fun k => k = fb ∨ k = m) w (w.setCell ⟨fb, o, none⟩ v').drew := fun v' => ((Frm.refl _ _).setCell _ _ (fun _ => .inl rfl)).drew
  have B1 : ∀ v', (w.setCell ⟨fb, o, none⟩ v').drew.heap[fb]? = some (.cells (cs.setIfInBounds o v') 113 (0, 0)) := fun v' => blk_set hb
  have hmin : ∃ j : Nat, min n (xs.length : Int) = (j : Int) ∧ j = (xs.take n.toNat).length ∧ j ≤ xs.length := ⟨min n.toNat xs.length, by omega, by rw [List.length_take], by omega⟩
  obtain ⟨j, hj, hjl, hjx⟩ := hmin
  have HRow : Hid (∀ v', (v = .slice none 0 0 ∧ v' = v ∨ ∃ g c, v = .slice (some ⟨g, 0, none⟩) xs.length c ∧ v' = .slice (some ⟨g, 0, none⟩) j c) → ∀ W : World, (∀ g, v.ownBlock = some g → W.heap[g]? = w.heap[g]?) → W.ownsRow 0 5 1 v' (xs.take n.toNat).length (u8s (xs.take n.toNat))) := by
    intro v' hv' W hW
    have hr := ownsRow.same hrow hW
    refine ⟨by simp [u8s], ?_⟩
    rcases hv' with ⟨e1, e2⟩ | ⟨g, c, e1, e2⟩
    · rcases hr.2 with ⟨_, h2⟩ | ⟨g, cap, cur, hv, _⟩
      · exact .inl ⟨by rw [e2, e1], by rw [List.length_take, h2]; omega⟩
      · rw [e1] at hv; cases hv
    · rcases hr.2 with ⟨h2, _⟩ | ⟨g', cap, cur, hv, hg, hh, c1, c2, c3, c4⟩
      · rw [e1] at h2; cases h2
      · rw [e1] at hv
        simp only [Value.slice.injEq, Option.some.injEq, Addr.mk.injEq, true_and, and_true] at hv
        obtain ⟨rfl, rfl⟩ := hv
        refine .inr ⟨g, c, cur, by rw [e2, hjl], hg, hh, by omega, c2, c3, ?_⟩
        have e3 : xs.take n.toNat = xs.take j := by
          rw [List.take_eq_take_iff, hjl, List.length_take]; omega
        rw [← hjl, e3]
        have e4 : u8s (xs.take j) = (u8s xs).take j := by unfold u8s; rw [List.map_take]
        rw [e4, ← c4, List.take_take, Nat.mul_one, Nat.mul_one, Nat.min_eq_left hjx]
  have HMem := Lib.hid hmem
  have HK := Lib.hid hk
  clear hb h0 hrow hmem hk hjl
  have fin : ∀ v', v'.ownBlock = v.ownBlock → (v = .slice none 0 0 ∧ v' = v ∨ ∃ g c, v = .slice (some ⟨g, 0, none⟩) xs.length c ∧ v' = .slice (some ⟨g, 0, none⟩) j c) → ∀ w3, w3.heap[fb]? = some (.cells (cs.setIfInBounds o v') 113 (0, 0)) → SetAt w3 m (cutBad S n) → Frm (fun k => k = fb ∨ k = m) w w3 → 
      ∃ v', v'.ownBlock = v.ownBlock ∧ w3.heap[fb]? = some (.cells (cs.setIfInBounds o v') 113 (0, 0)) ∧
      (∀ W : World, (∀ g, v.ownBlock = some g → W.heap[g]? = w.heap[g]?) → W.ownsRow 0 5 1 v' (xs.take n.toNat).length (u8s (xs.take n.toNat))) ∧ SetAt w3 m (cutBad S n) ∧ Frm (fun k => k = fb ∨ k = m) w w3 :=
    fun v' e1 e2 w3 e3 e4 e5 => ⟨v', e1, e3, HRow.out v' e2, e4, e5⟩
  have FIN := Lib.hid fin
  have H1 := Lib.hid h1
  clear fin HRow h1
  rcases hv with ⟨rfl, hx0⟩ | ⟨g, c, rfl, hc⟩
  · have hj0 : min n ((0 : Nat) : Int) = 0 := by omega
    simp only [Int.natCast_zero] at hj0
    go_enter Tryz.func130, Tryz.ntmps130
    go_wp2_with fail
    go_still_tail 15, (by kernel_rfl)
    change wpList _ _ _ _ _ w.drew
    have m1 := M1 (.slice none 0 0)
    have f1 := F1 (.slice none 0 0)
    have b1 := B1 (.slice none 0 0)
    have y2 := y1 (.slice none 0 0)
    clear M1 F1 B1 y1
    go_wp2_with (first | (at_range; generalize (w.setCell ⟨fb, o, none⟩ (.slice none 0 0)).drew = W1 at *; refine wpl_range _ rfl _ rfl Tryz.underlying109 rfl m1 ?_; intro W2 hi2 hg2 hs2))
    have y3 : W1.cell? ⟨fb, o + 1, none⟩ = some (.map (some m)) := cell_of b1 (by rw [Array.getElem?_setIfInBounds_ne (by omega)]; exact H1.out)
    have I2 : CutInv W1 W2 m W1.heap.size n ks ks ks := ⟨(Frm.of_grown hg2).mono (fun k _ e => by simp at e), hi2, hnd, hnd, fun k => ⟨fun h => ⟨h, .inl h⟩, fun h => h.1⟩, fun _ h => h⟩
    have HI := Lib.hid I2
    have MM : m < W1.heap.size := Nat.lt_of_lt_of_le mlt f1.size
    have FF : fb < W1.heap.size := Nat.lt_of_lt_of_le fblt f1.size
    have HB := Lib.hid b1
    have HF := Lib.hid f1
    clear I2 hi2 hg2 hs2 m1 b1 f1
    go_frame
    go_loopw [] (fun wr => ∃ ks' tk, CutInv W1 wr m W1.heap.size n ks ks' tk) (fun wr => leftIn wr W1.heap.size m)
    case atStart => exact ⟨ks, ks, HI.out⟩
    case round =>
      obtain ⟨ks', tk, I⟩ := hrel
      have hsz : W1.heap.size < wr.heap.size := by
        obtain ⟨es, cl, sn, _, hh, _⟩ := I.iter
        exact blk_lt hh
      have II := Lib.hid I
      have hI := I.iter
      have z2 : wr.cell? ⟨fb, o + 1, none⟩ = some (.map (some m)) := (I.frm.cell FF (Ne.symm hm)).trans y3
      have hleft := I.iter.left
      clear I
      by_cases h0 : tk = []
      · subst h0
        go_wp2_with (first | (at_next; refine wpl_next _ rfl _ rfl rfl hI (fun h0 => ?_) (fun y vv todo' w1 hp hi1 hg1 hs1 hen => absurd hp.length_eq (by simp [ent]))))
        go_end0
        refine ⟨rfl, FIN.out (.slice none 0 0) (by simp [Value.ownBlock]) (by simp) _ ?_ ⟨ks', II.out.iter.map, II.out.nd, fun k => ?_⟩ (HF.out.trans II.out.frm (fun k _ e => .inr e))⟩
        · rw [II.out.frm.block fb FF (Ne.symm hm)]; exact HB.out
        · rw [II.out.mem k]
          unfold cutBad
          rw [HMem.out k]
          constructor
          · rintro ⟨⟨h1, h2⟩, h3⟩
            refine ⟨h1, ?_⟩
            have h4 : k * 512 < n := by simpa using h3
            rw [h2]; simp; omega
          · rintro ⟨h1, h2⟩
            simp only [Bool.and_eq_true, decide_eq_true_eq] at h2
            exact ⟨⟨h1, h2.1⟩, .inr (by omega)⟩
      · go_wp2_with (first
          | (at_next; (refine wpl_next _ rfl _ rfl rfl hI (fun h0x => absurd (List.map_eq_nil_iff.1 h0x) h0) (fun y vv todo' w1 hp hi1 hg1 hs1 hen => ?_); obtain ⟨rfl, tk', rfl, hp'⟩ := ent_perm hp; have hyk := (HMem.out y).1 (II.out.sub y (hp'.mem_iff.2 List.mem_cons_self)); have hyS := HK.out _ hyk.2; have hy0 : 0 ≤ y := hyk.1; have hy1 : y < 9007199254740992 := (by omega); have hyt : y ∉ (ent tk').map (·.1) := (by simpa [ent, Function.comp_def] using (List.nodup_cons.1 (hp'.nodup_iff.1 II.out.ndt)).1); have z3 := (hg1.cell_far ⟨fb, o + 1, none⟩ (Nat.lt_of_lt_of_le FF II.out.frm.size) (fun e => by have : fb = W1.heap.size := Option.some.inj e; omega)).trans z2; have HP' := Lib.hid hp'; clear hp' hp hyk hyS; by_cases hge : n ≤ y * 512))
          | (at_delete; refine wpl_delete_iter _ rfl _ _ rfl kI Tryz.underlying109 y rfl rfl hi1 hyt (fun w2 hi2 hg2 hs2 => ?_)))
        · have fr := (II.out.frm.grown hg1 (fun k e hk => by have := Option.some.inj e; omega)).grown hg2 (fun k e _ => (Option.some.inj e).symm)
          refine ⟨⟨_, _, _, _, _, _, _, _, _, _, _, _, _, _, ⟨_, tk', II.out.gone HP'.out (by omega) fr hi2⟩, rfl⟩, ?_⟩
          rw [hi2.left, hleft]
          have := HP'.out.length_eq
          simp [ent] at this ⊢
          omega
        · have fr := II.out.frm.grown hg1 (fun k e hk => by have := Option.some.inj e; omega)
          refine ⟨⟨ks', tk', II.out.kept HP'.out (by omega) fr hi1⟩, ?_⟩
          rw [hi1.left, hleft]
          have := HP'.out.length_eq
          simp [ent] at this ⊢
          omega
  · have hjc : j ≤ c := Nat.le_trans hjx hc
    go_enter Tryz.func130, Tryz.ntmps130
    go_wp2_with fail
    go_still_tail 15, (by kernel_rfl)
    change wpList _ _ _ _ _ w.drew
    have m1 := M1 (.slice (some ⟨g, 0, none⟩) j c)
    have f1 := F1 (.slice (some ⟨g, 0, none⟩) j c)
    have b1 := B1 (.slice (some ⟨g, 0, none⟩) j c)
    have y2 := y1 (.slice (some ⟨g, 0, none⟩) j c)
    clear M1 F1 B1 y1
    go_wp2_with (first | (at_range; generalize (w.setCell ⟨fb, o, none⟩ (.slice (some ⟨g, 0, none⟩) j c)).drew = W1 at *; refine wpl_range _ rfl _ rfl Tryz.underlying109 rfl m1 ?_; intro W2 hi2 hg2 hs2))
    have y3 : W1.cell? ⟨fb, o + 1, none⟩ = some (.map (some m)) := cell_of b1 (by rw [Array.getElem?_setIfInBounds_ne (by omega)]; exact H1.out)
    have I2 : CutInv W1 W2 m W1.heap.size n ks ks ks := ⟨(Frm.of_grown hg2).mono (fun k _ e => by simp at e), hi2, hnd, hnd, fun k => ⟨fun h => ⟨h, .inl h⟩, fun h => h.1⟩, fun _ h => h⟩
    have HI := Lib.hid I2
    have MM : m < W1.heap.size := Nat.lt_of_lt_of_le mlt f1.size
    have FF : fb < W1.heap.size := Nat.lt_of_lt_of_le fblt f1.size
    have HB := Lib.hid b1
    have HF := Lib.hid f1
    clear I2 hi2 hg2 hs2 m1 b1 f1
    go_frame
    go_loopw [] (fun wr => ∃ ks' tk, CutInv W1 wr m W1.heap.size n ks ks' tk) (fun wr => leftIn wr W1.heap.size m)
    case atStart => exact ⟨ks, ks, HI.out⟩
    case round =>
      obtain ⟨ks', tk, I⟩ := hrel
      have hsz : W1.heap.size < wr.heap.size := by
        obtain ⟨es, cl, sn, _, hh, _⟩ := I.iter
        exact blk_lt hh
      have II := Lib.hid I
      have hI := I.iter
      have z2 : wr.cell? ⟨fb, o + 1, none⟩ = some (.map (some m)) := (I.frm.cell FF (Ne.symm hm)).trans y3
      have hleft := I.iter.left
      clear I
      by_cases h0 : tk = []
      · subst h0
        go_wp2_with (first | (at_next; refine wpl_next _ rfl _ rfl rfl hI (fun h0 => ?_) (fun y vv todo' w1 hp hi1 hg1 hs1 hen => absurd hp.length_eq (by simp [ent]))))
        go_end0
        refine ⟨rfl, FIN.out (.slice (some ⟨g, 0, none⟩) j c) (by simp [Value.ownBlock]) (.inr ⟨g, c, rfl, rfl⟩) _ ?_ ⟨ks', II.out.iter.map, II.out.nd, fun k => ?_⟩ (HF.out.trans II.out.frm (fun k _ e => .inr e))⟩
        · rw [II.out.frm.block fb FF (Ne.symm hm)]; exact HB.out
        · rw [II.out.mem k]
          unfold cutBad
          rw [HMem.out k]
          constructor
          · rintro ⟨⟨h1, h2⟩, h3⟩
            refine ⟨h1, ?_⟩
            have h4 : k * 512 < n := by simpa using h3
            rw [h2]; simp; omega
          · rintro ⟨h1, h2⟩
            simp only [Bool.and_eq_true, decide_eq_true_eq] at h2
            exact ⟨⟨h1, h2.1⟩, .inr (by omega)⟩
      · go_wp2_with (first
          | (at_next; (refine wpl_next _ rfl _ rfl rfl hI (fun h0x => absurd (List.map_eq_nil_iff.1 h0x) h0) (fun y vv todo' w1 hp hi1 hg1 hs1 hen => ?_); obtain ⟨rfl, tk', rfl, hp'⟩ := ent_perm hp; have hyk := (HMem.out y).1 (II.out.sub y (hp'.mem_iff.2 List.mem_cons_self)); have hyS := HK.out _ hyk.2; have hy0 : 0 ≤ y := hyk.1; have hy1 : y < 9007199254740992 := (by omega); have hyt : y ∉ (ent tk').map (·.1) := (by simpa [ent, Function.comp_def] using (List.nodup_cons.1 (hp'.nodup_iff.1 II.out.ndt)).1); have z3 := (hg1.cell_far ⟨fb, o + 1, none⟩ (Nat.lt_of_lt_of_le FF II.out.frm.size) (fun e => by have : fb = W1.heap.size := Option.some.inj e; omega)).trans z2; have HP' := Lib.hid hp'; clear hp' hp hyk hyS; by_cases hge : n ≤ y * 512))
          | (at_delete; refine wpl_delete_iter _ rfl _ _ rfl kI Tryz.underlying109 y rfl rfl hi1 hyt (fun w2 hi2 hg2 hs2 => ?_)))
        · have fr := (II.out.frm.grown hg1 (fun k e hk => by have := Option.some.inj e; omega)).grown hg2 (fun k e _ => (Option.some.inj e).symm)
          refine ⟨⟨_, _, _, _, _, _, _, _, _, _, _, _, _, _, ⟨_, tk', II.out.gone HP'.out (by omega) fr hi2⟩, rfl⟩, ?_⟩
          rw [hi2.left, hleft]
          have := HP'.out.length_eq
          simp [ent] at this ⊢
          omega
        · have fr := II.out.frm.grown hg1 (fun k e hk => by have := Option.some.inj e; omega)
          refine ⟨⟨ks', tk', II.out.kept HP'.out (by omega) fr hi1⟩, ?_⟩
          rw [hi1.left, hleft]
          have := HP'.out.length_eq
          simp [ent] at this ⊢
          omega
end Go.Proofs.YtpckkdjdjkjapaaGreatDoor.Dw


/- A file is cut: what the memory is then. -/
namespace Go.Proofs.YtpckkdjdjkjapaaGreatDoor.Da
open Go.RowKit Go.ChangeMaps Go.Proofs.YtpckkdjdjkjapaaGreatDoor.Mp Go.Proofs.YtpckkdjdjkjapaaGreatDoor.Dm
set_option linter.unusedVariables false
set_option linter.unusedSimpArgs false
set_option linter.unusedSectionVars false
section
variable {B : Nat} {w w3 : World} {b : Nat} {A : Adr} {lab : Nat → Option Lb} {D : Disk}
theorem DiskAt.truncFile (h : DiskAt B w b A lab D) {i : Nat} {f : FileS} (hf : D.files[i]? = some f) (n : Int) {v1 v2 : Value} (e1 : v1.ownBlock = (A.fa i).sd.ownBlock) (e2 : v2.ownBlock = (A.fa i).ad.ownBlock)
    (hb : w3.heap[(A.fa i).fb]? = some (.cells #[.int .i64 (i + 1 : Nat), v1, .map (some (A.fa i).sb), v2, .map (some (A.fa i).ab), .map (some (A.fa i).wb)] 113 (0, 0)))
    (r1 : w3.ownsRow 0 5 1 v1 (f.seen.take n.toNat).length (u8s (f.seen.take n.toNat))) (r2 : w3.ownsRow 0 5 1 v2 (f.safe.take n.toNat).length (u8s (f.safe.take n.toNat)))
    (s1 : SetAt w3 (A.fa i).sb (cutBad f.badSeen n)) (s2 : SetAt w3 (A.fa i).ab (cutBad f.badSafe n)) (s3 : SetAt w3 (A.fa i).wb (cutBad f.waits n))
    (hfr : Frm (fun k => k = (A.fa i).fb ∨ k = (A.fa i).sb ∨ k = (A.fa i).ab ∨ k = (A.fa i).wb) w w3) : Ext B b lab w w3 (D.modify i (FileS.trunc n)) := by
  have F := h.files i f hf
  refine h.setFile hf (FileS.trunc n) (a' := { A.fa i with sd := v1, ad := v2 }) (lab' := lab) ⟨hb, F.lfb, ⟨r1, fun g hg => F.seen.lab g (by rw [← e1]; exact hg)⟩, ⟨r2, fun g hg => F.safe.lab g (by rw [← e2]; exact hg)⟩, s1, F.lsb, s2, F.lab_, s3, F.lwb⟩ rfl ?_ ?_ ?_ (fun _ _ h => h)
  · intro k p hl hp
    refine ⟨hfr.block k (h.base k p hl).2 ?_, hl⟩
    rintro (e | e | e | e)
    · exact ne_of_lab hl F.lfb (by rintro rfl; exact hp (by simp [isOf])) e
    · exact ne_of_lab hl F.lsb (by rintro rfl; exact hp (by simp [isOf])) e
    · exact ne_of_lab hl F.lab_ (by rintro rfl; exact hp (by simp [isOf])) e
    · exact ne_of_lab hl F.lwb (by rintro rfl; exact hp (by simp [isOf])) e
  · exact fun k p hl => ⟨(h.base k p hl).1, Nat.lt_of_lt_of_le (h.base k p hl).2 hfr.size⟩
  · refine hfr.mono (fun k _ e => ?_)
    unfold Ft
    rcases e with e | e | e | e <;> rw [e]
    · rw [F.lfb]; rfl
    · rw [F.lsb]; rfl
    · rw [F.lab_]; rfl
    · rw [F.lwb]; rfl
end
end Go.Proofs.YtpckkdjdjkjapaaGreatDoor.Da


/- Walks: Truncate's do. -/
namespace Go.Proofs.YtpckkdjdjkjapaaGreatDoor.Dw
open Go.RowKit Go.ChangeMaps Go.Proofs.YtpckkdjdjkjapaaGreatDoor.Mp Go.Proofs.YtpckkdjdjkjapaaGreatDoor.Dm Go.Proofs.YtpckkdjdjkjapaaGreatDoor.Da
set_option linter.unusedVariables false
set_option linter.unusedSimpArgs false
set_option linter.unusedSectionVars false
/-- Sectors' numbers are small (so that their places are numbers). -/
structure FileS.Small (f : FileS) : Prop where
  seen : f.seen.length ≤ 4398046511104
  safe : f.safe.length ≤ 4398046511104
  badSeen : ∀ k, f.badSeen k = true → k < 9007199254740992
  badSafe : ∀ k, f.badSafe k = true → k < 9007199254740992
  waits : ∀ k, f.waits k = true → k < 9007199254740992
set_option maxHeartbeats 1000000 in
set_option maxRecDepth 100000 in
theorem truncate11 {B : Nat} {W : World} {b : Nat} {A : Adr} {lab : Nat → Option Lb} {D : Disk} (h : DiskAt B W b A lab D) (hw : WF D) (n : Name) (hex : (find D.now n).isSome = true) (hsm : ∀ f, f ∈ D.files → FileS.Small f) (k : Int) (hk0 : 0 ≤ k) (hk1 : k ≤ 4611686018427387904)
    (cd cn ck : Nat) (h1 : Cap W lab cd (dptr b)) (h2 : Cap W lab cn (.string n)) (h3 : Cap W lab ck (.int .i64 k)) :
    Calls Tryz.prog 129 #[.pointer (some ⟨cd, 0, none⟩), .pointer (some ⟨cn, 0, none⟩), .pointer (some ⟨ck, 0, none⟩)] W fun e W' => e = .returned (.tuple #[]) ∧ Ext B b lab W W' (D.onFile n (FileS.trunc k)) := by
  have q1 := h1.1
  have q2 := h2.1
  have q3 := h3.1
  obtain ⟨i, hi⟩ := Option.isSome_iff_exists.1 hex
  obtain ⟨f, hf⟩ := WF.file hw hi
  have hd : D.onFile n (FileS.trunc k) = D.modify i (FileS.trunc k) := by simp [Disk.onFile, hi]
  rw [hd]
  have r0 : W.cell? ⟨b, 0, none⟩ = some (.map (some A.nm)) := main_cell h.blk rfl
  obtain ⟨l', hp, hm⟩ := h.names
  have hl := look_names hp hw.nowN A n
  rw [hi] at hl
  have lk : ∀ nq, (Instr.lookup 96 (.map (some A.nm)) (.string n) false).run Tryz.prog (W.drewN nq) = .ok (.pointer (some ⟨(A.fa i).fb, 0, none⟩)) (W.drewN nq) := by
    intro nq
    have hm' : MapAt Value.string (W.drewN nq) A.nm (l'.map fun p => (p.1, fptr A p.2)) := hm.of_block rfl
    have := hm'.lookup kS Tryz.underlying96 (zP _) n false
    rw [this, hl]; rfl
  have F := h.files i f hf
  have hs := hsm f (List.mem_of_getElem? hf)
  clear hl hp hd hi hex hsm hm
  unfold dptr at q1
  have H := Lib.hid h
  have HF := Lib.hid hf
  have HS := Lib.hid hs
  clear h hf hs
  go_enter Tryz.func129, Tryz.ntmps129
  go_wp2
  go_quiet (fail)
  have FN : FileAt (W.drewN nq) lab i (A.fa i) f := F.same (fun _ _ _ _ => rfl)
  have DN : DiskAt B (W.drewN nq) b A lab D := H.out.same (fun _ _ _ => rfl) (Nat.le_refl _)
  have f1 : Frm (Ft lab) W (W.drewN nq) := (Frm.refl _ _).drewN _
  have c3 : Cap (W.drewN nq) lab ck (.int .i64 k) := ⟨h3.1, h3.2⟩
  clear lk F q1 q2 q3 r0 h1 h2 h3
  generalize W.drewN nq = Wn at *
  have q3 := c3.1
  have nsf : (A.fa i).sb ≠ (A.fa i).fb := ne_of_lab FN.lsb FN.lfb (by simp)
  have naf : (A.fa i).ab ≠ (A.fa i).fb := ne_of_lab FN.lab_ FN.lfb (by simp)
  have nwf : (A.fa i).wb ≠ (A.fa i).fb := ne_of_lab FN.lwb FN.lfb (by simp)
  have nas : (A.fa i).ab ≠ (A.fa i).sb := ne_of_lab FN.lab_ FN.lsb (by simp)
  have nws : (A.fa i).wb ≠ (A.fa i).sb := ne_of_lab FN.lwb FN.lsb (by simp)
  have nwa : (A.fa i).wb ≠ (A.fa i).ab := ne_of_lab FN.lwb FN.lab_ (by simp)
  have k1 := cutTo_calls (w := Wn.drew) (fb := (A.fa i).fb) (o := 1) (m := (A.fa i).sb) FN.blk rfl rfl FN.seen.row (fun e => by have := FN.seen.lab _ e; rw [FN.lfb] at this; cases this) FN.badSeen nsf k hk0 hk1 (Nat.le_trans HS.out.seen (by omega)) HS.out.badSeen
  have K1 := Lib.hid k1
  clear k1
  have HFN := Lib.hid FN
  clear FN
  go_wp2_with fail
  go_still_tail 4, (by kernel_rfl)
  change wpList _ _ _ _ _ Wn.drew
  go_wp2_with fail
  refine K1.out.mono ?_
  rintro e W1 ⟨rfl, v1, e1, hb1, hr1, hs1, hf1⟩
  have F := HFN.out
  have hlab : ∀ x p, lab x = some p → x < Wn.heap.size := fun x p hl => by
    have := (H.out.base x p hl).2
    exact Nat.lt_of_lt_of_le this f1.size
  have hckl := c3.lt
  have nck : ck ≠ (A.fa i).fb ∧ ck ≠ (A.fa i).sb ∧ ck ≠ (A.fa i).ab ∧ ck ≠ (A.fa i).wb := by
    refine ⟨?_, ?_, ?_, ?_⟩ <;> intro e
    · have := c3.2; rw [e, F.lfb] at this; cases this
    · have := c3.2; rw [e, F.lsb] at this; cases this
    · have := c3.2; rw [e, F.lab_] at this; cases this
    · have := c3.2; rw [e, F.lwb] at this; cases this
  obtain ⟨g1, g2, g3, g4⟩ := nck
  have z1 : W1.cell? ⟨ck, 0, none⟩ = some (.int .i64 k) := (hf1.cell hckl (fun e => e.elim g1 g2)).trans q3
  have hadW1 : ∀ g, (A.fa i).ad.ownBlock = some g → W1.heap[g]? = Wn.heap[g]? := fun g hg => hf1.block g (hlab _ _ (F.safe.lab g hg)) (fun e => e.elim (ne_of_lab (F.safe.lab g hg) F.lfb (by simp)) (ne_of_lab (F.safe.lab g hg) F.lsb (by simp)))
  have k2 := cutTo_calls (w := W1.drew) (fb := (A.fa i).fb) (o := 3) (m := (A.fa i).ab) hb1 rfl rfl (ownsRow.same F.safe.row hadW1) (fun e => by have := F.safe.lab _ e; rw [F.lfb] at this; cases this)
    (F.badSafe.same (w' := W1.drew) (hf1.block _ (hlab _ _ F.lab_) (fun e => e.elim naf nas))) naf k hk0 hk1 (Nat.le_trans HS.out.safe (by omega)) HS.out.badSafe
  have K2 := Lib.hid k2
  have HR1 := Lib.hid (And.intro hr1 (And.intro hs1 (And.intro hf1 hadW1)))
  clear k2 hr1 hs1 hf1 hadW1 hb1
  go_wp2_with fail
  go_still_tail 4, (by kernel_rfl)
  change wpList _ _ _ _ _ W1.drew
  go_wp2_with fail
  refine K2.out.mono ?_
  rintro e W2 ⟨rfl, v2, e2, hb2, hr2, hs2, hf2⟩
  obtain ⟨hr1, hs1, hf1, hadW1⟩ := HR1.out
  have fb2 : (A.fa i).fb < W1.heap.size := Nat.lt_of_lt_of_le (hlab _ _ F.lfb) hf1.size
  have fb3 : (A.fa i).fb < W2.heap.size := Nat.lt_of_lt_of_le fb2 hf2.size
  have wb1 := hlab _ _ F.lwb
  have wb2 : (A.fa i).wb < W1.heap.size := Nat.lt_of_lt_of_le wb1 hf1.size
  have wb3 : (A.fa i).wb < W2.heap.size := Nat.lt_of_lt_of_le wb2 hf2.size
  have ck2 : ck < W1.heap.size := Nat.lt_of_lt_of_le hckl hf1.size
  have ck3 : ck < W2.heap.size := Nat.lt_of_lt_of_le ck2 hf2.size
  have z2 : W2.cell? ⟨ck, 0, none⟩ = some (.int .i64 k) := (hf2.cell ck2 (fun e => e.elim g1 g3)).trans z1
  have y5 : W2.cell? ⟨(A.fa i).fb, 5, none⟩ = some (.map (some (A.fa i).wb)) := cell_of hb2 rfl
  obtain ⟨ks, hks, hnd, hmem⟩ := F.waits
  change MapAt (Value.int .i64) Wn (A.fa i).wb (ent ks) at hks
  have M2 : MapAt (Value.int .i64) W2 (A.fa i).wb (ent ks) := hks.of_block ((hf2.block _ wb2 (fun e => e.elim nwf nwa)).trans (hf1.block _ wb1 (fun e => e.elim nwf nws)))
  have fin : ∀ w3, Frm (fun x => x = (A.fa i).wb) W2 w3 → SetAt w3 (A.fa i).wb (cutBad f.waits k) → Ext B b lab W w3 (D.modify i (FileS.trunc k)) := by
    intro w3 hf3 hS3
    have sb1 := hlab _ _ F.lsb
    have sb2 : (A.fa i).sb < W1.heap.size := Nat.lt_of_lt_of_le sb1 hf1.size
    have sb3 : (A.fa i).sb < W2.heap.size := Nat.lt_of_lt_of_le sb2 hf2.size
    have ab3 : (A.fa i).ab < W2.heap.size := Nat.lt_of_lt_of_le (Nat.lt_of_lt_of_le (hlab _ _ F.lab_) hf1.size) hf2.size
    have off : ∀ g p, lab g = some p → p ≠ .file i → p ≠ .ab i → p ≠ .wb i → w3.heap[g]? = W1.heap[g]? := fun g p hl p1 p2 p3 =>
      (hf3.block g (Nat.lt_of_lt_of_le (Nat.lt_of_lt_of_le (hlab g p hl) hf1.size) hf2.size) (ne_of_lab hl F.lwb p3)).trans (hf2.block g (Nat.lt_of_lt_of_le (hlab g p hl) hf1.size) (fun e => e.elim (ne_of_lab hl F.lfb p1) (ne_of_lab hl F.lab_ p2)))
    refine Ext.trans f1 (fun _ _ h => h) (DN.truncFile HF.out k e1 e2 ((hf3.block _ fb3 (Ne.symm nwf)).trans hb2) (hr1 w3 ?_) (hr2 w3 ?_) (hs1.same ?_) (hs2.same ?_) hS3 ?_)
    · intro g hg
      have hl := F.seen.lab g hg
      exact (off g _ hl (by simp) (by simp) (by simp)).trans (hf1.block g (hlab g _ hl) (fun e => e.elim (ne_of_lab hl F.lfb (by simp)) (ne_of_lab hl F.lsb (by simp))))
    · intro g hg
      exact off g _ (F.safe.lab g hg) (by simp) (by simp) (by simp)
    · exact off _ _ F.lsb (by simp) (by simp) (by simp)
    · exact hf3.block _ ab3 (Ne.symm nwa)
    · have t1 : Frm (fun x => x = (A.fa i).fb ∨ x = (A.fa i).sb ∨ x = (A.fa i).ab ∨ x = (A.fa i).wb) Wn W1 := ((Frm.refl (fun _ => False) Wn).drew.mono (fun _ _ h => h.elim)).trans hf1 (fun x _ (e : x = (A.fa i).fb ∨ x = (A.fa i).sb) => e.elim .inl (fun e => .inr (.inl e)))
      exact (t1.drew.trans hf2 (fun x _ (e : x = (A.fa i).fb ∨ x = (A.fa i).ab) => e.elim .inl (fun e => .inr (.inr (.inl e))))).trans hf3 (fun x _ e => .inr (.inr (.inr e)))
  have FIN := Lib.hid fin
  have HMem := Lib.hid hmem
  clear fin hr1 hs1 hf1 hadW1 hr2 hs2 hf2 hb2 hmem hks z1 q3 F
  go_wp2_with (first | (at_range; refine wpl_range _ rfl _ rfl Tryz.underlying109 rfl M2 ?_; intro W3 hi2 hg2 hs2))
  have I2 : CutInv W2 W3 (A.fa i).wb W2.heap.size k ks ks ks := ⟨(Frm.of_grown hg2).mono (fun k _ e => by simp at e), hi2, hnd, hnd, fun k => ⟨fun h => ⟨h, .inl h⟩, fun h => h.1⟩, fun _ h => h⟩
  have HI := Lib.hid I2
  clear I2 hi2 hg2 hs2 M2
  go_frame
  go_loopw [] (fun wr => ∃ ks' tk, CutInv W2 wr (A.fa i).wb W2.heap.size k ks ks' tk) (fun wr => leftIn wr W2.heap.size (A.fa i).wb)
  case atStart => exact ⟨ks, ks, HI.out⟩
  case round =>
    obtain ⟨ks', tk, I⟩ := hrel
    have hsz : W2.heap.size < wr.heap.size := by
      obtain ⟨es, cl, sn, _, hh, _⟩ := I.iter
      exact blk_lt hh
    have II := Lib.hid I
    have hI := I.iter
    have x5 : wr.cell? ⟨(A.fa i).fb, 5, none⟩ = some (.map (some (A.fa i).wb)) := (I.frm.cell fb3 (Ne.symm nwf)).trans y5
    have x6 : wr.cell? ⟨ck, 0, none⟩ = some (.int .i64 k) := (I.frm.cell ck3 g4).trans z2
    have hleft := I.iter.left
    clear I
    by_cases h0 : tk = []
    · subst h0
      go_wp2_with (first | (at_next; refine wpl_next _ rfl _ rfl rfl hI (fun h0 => ?_) (fun y vv todo' w1 hp hi1 hg1 hs1 hen => absurd hp.length_eq (by simp [ent]))))
      go_end0
      refine ⟨rfl, FIN.out _ II.out.frm ⟨ks', II.out.iter.map, II.out.nd, fun x => ?_⟩⟩
      rw [II.out.mem x]
      unfold cutBad
      rw [HMem.out x]
      constructor
      · rintro ⟨⟨h1, h2⟩, h3⟩
        refine ⟨h1, ?_⟩
        have h4 : x * 512 < k := by simpa using h3
        rw [h2]; simp; omega
      · rintro ⟨h1, h2⟩
        simp only [Bool.and_eq_true, decide_eq_true_eq] at h2
        exact ⟨⟨h1, h2.1⟩, .inr (by omega)⟩
    · go_wp2_with (first
        | (at_next; refine wpl_next _ rfl _ rfl rfl hI (fun h0x => absurd (List.map_eq_nil_iff.1 h0x) h0) (fun y vv todo' w1 hp hi1 hg1 hs1 hen => ?_); obtain ⟨rfl, tk', rfl, hp'⟩ := ent_perm hp; have hyk := (HMem.out y).1 (II.out.sub y (hp'.mem_iff.2 List.mem_cons_self)); have hyS := HS.out.waits _ hyk.2; have hy0 : 0 ≤ y := hyk.1; have hy1 : y < 9007199254740992 := (by omega); have hyt : y ∉ (ent tk').map (·.1) := (by simpa [ent, Function.comp_def] using (List.nodup_cons.1 (hp'.nodup_iff.1 II.out.ndt)).1); have x7 := (hg1.cell_far ⟨(A.fa i).fb, 5, none⟩ (Nat.lt_of_lt_of_le fb3 II.out.frm.size) (fun e => by have : (A.fa i).fb = W2.heap.size := Option.some.inj e; omega)).trans x5; have x8 := (hg1.cell_far ⟨ck, 0, none⟩ (Nat.lt_of_lt_of_le ck3 II.out.frm.size) (fun e => by have : ck = W2.heap.size := Option.some.inj e; omega)).trans x6; have HP' := Lib.hid hp'; clear hp' hp hyk hyS; by_cases hge : k ≤ y * 512)
        | (at_delete; refine wpl_delete_iter _ rfl _ _ rfl kI Tryz.underlying109 y rfl rfl hi1 hyt (fun w2 hi2 hg2 hs2 => ?_)))
      · have fr := (II.out.frm.grown hg1 (fun x e hk => by have := Option.some.inj e; omega)).grown hg2 (fun x e _ => (Option.some.inj e).symm)
        refine ⟨⟨_, _, _, _, _, _, _, _, _, _, _, _, _, _, ⟨_, tk', II.out.gone HP'.out (by omega) fr hi2⟩, rfl⟩, ?_⟩
        rw [hi2.left, hleft]
        have := HP'.out.length_eq
        simp [ent] at this ⊢
        omega
      · have fr := II.out.frm.grown hg1 (fun x e hk => by have := Option.some.inj e; omega)
        refine ⟨⟨ks', tk', II.out.kept HP'.out (by omega) fr hi1⟩, ?_⟩
        rw [hi1.left, hleft]
        have := HP'.out.length_eq
        simp [ent] at this ⊢
        omega
end Go.Proofs.YtpckkdjdjkjapaaGreatDoor.Dw


/- Truncate, whole (printed by wip/tools/wrap.py). -/
namespace Go.Proofs.YtpckkdjdjkjapaaGreatDoor.Dw
open Go.RowKit Go.ChangeMaps Go.Proofs.YtpckkdjdjkjapaaGreatDoor.Mp Go.Proofs.YtpckkdjdjkjapaaGreatDoor.Dm Go.Proofs.YtpckkdjdjkjapaaGreatDoor.Da
set_option linter.unusedVariables false
set_option linter.unusedSimpArgs false
set_option linter.unusedSectionVars false
set_option maxHeartbeats 1000000 in
set_option maxRecDepth 100000 in
theorem truncate_calls {B : Nat} {w : World} {b : Nat} {A : Adr} {lab : Nat → Option Lb} {D : Disk} {eb : Nat → Addr} {L : List Err} (h : DiskAt B w b A lab D) (he : ErrsAt B w eb L) (hw : WF D) (hb : Bnd D) (n : Name) (k : Int) (hk : -9223372036854775808 ≤ k ∧ k ≤ 9223372036854775807) (hsm : ∀ f, f ∈ D.files → FileS.Small f) :
    Calls Tryz.prog 77 #[dptr b, .string n, .int .i64 k] w fun e W' => e = .returned (errV eb (D.truncate n k).1) ∧ Ext B b lab w W' (D.truncate n k).2 := by
  have hlt : ∀ k p, lab k = some p → k < w.heap.size := fun k p hl => (h.base k p hl).2
  have l0 : ∀ i, lab (w.heap.size + i) = none := by
    intro i
    rcases hc : lab (w.heap.size + i) with _ | p
    · rfl
    · have := hlt _ p hc; omega
  have key : ∀ W0, W0 = (((w.alloc (.cells #[dptr b] 27)).alloc (.cells #[.string n] 9)).alloc (.cells #[.int .i64 k] 3)) →
      Calls Tryz.prog 96 #[dptr b, .func (.func 128) #[] #[.pointer (some ⟨w.heap.size, 0, none⟩), .pointer (some ⟨w.heap.size + 1, 0, none⟩), .pointer (some ⟨w.heap.size + 1 + 1, 0, none⟩)]] W0 fun e W' => e = .returned (errV eb (D.truncate n k).1) ∧ Ext B b lab w W' (D.truncate n k).2 := by
    intro W0 hW0
    have h0 : DiskAt B W0 b A lab D := by rw [hW0]; exact (((h.alloc _).alloc _).alloc _)
    have he0 : ErrsAt B W0 eb L := by rw [hW0]; exact (((he.alloc _).alloc _).alloc _)
    have f0 : Frm (Ft lab) w W0 := by rw [hW0]; exact ((((Frm.refl _ _).alloc _).alloc _).alloc _)
    have c0 : Cap W0 lab w.heap.size (dptr b) := ⟨by rw [hW0]; exact (cell_alloc (cell_alloc (cell_of blk_alloc rfl))), l0 0⟩
    have c1 : Cap W0 lab (w.heap.size + 1) (.string n) := ⟨by
      rw [hW0, show w.heap.size + 1 = (w.alloc (.cells #[dptr b] 27)).heap.size by simp only [World.size_alloc]]
      exact (cell_alloc (cell_of blk_alloc rfl)), l0 1⟩
    have c2 : Cap W0 lab (w.heap.size + 1 + 1) (.int .i64 k) := ⟨by
      rw [hW0, show w.heap.size + 1 + 1 = ((w.alloc (.cells #[dptr b] 27)).alloc (.cells #[.string n] 9)).heap.size by simp only [World.size_alloc]]
      exact (cell_of blk_alloc rfl), l0 2⟩
    have run := run_calls h0 he0 hb.count hb.since 128 #[.pointer (some ⟨w.heap.size, 0, none⟩), .pointer (some ⟨w.heap.size + 1, 0, none⟩), .pointer (some ⟨w.heap.size + 1 + 1, 0, none⟩)] (fun W => by kernel_rfl) (D.refuseTrunc n k) false 129
      #[.pointer (some ⟨w.heap.size, 0, none⟩), .pointer (some ⟨w.heap.size + 1, 0, none⟩), .pointer (some ⟨w.heap.size + 1 + 1, 0, none⟩)] (fun W => by kernel_rfl) (.nilFunc) (Disk.onFile n (FileS.trunc k)) (none)
      (by
        intro W hx
        obtain ⟨A1, lab1, g1, g2, g3⟩ := hx
        refine (truncate1 g1 (he0.frm g2 (Ft.low h0)) hw.tick n k _ _ _ hk (c0.frm g2) (c1.frm g2) (c2.frm g2)).mono ?_
        rintro e W' ⟨rfl, hf⟩
        exact ⟨rfl, Ext.keep ⟨A1, lab1, g1, g2, g3⟩ hf (fun _ _ h => h)⟩)
      (by
        intro h00 W D1 hD1 hx
        obtain ⟨A1, lab1, g1, g2, g3⟩ := hx
        have hw1 : WF D1 := by
          rcases hD1 with rfl | ⟨_, rfl⟩
          · exact hw.tick
          · exact hw.tick.dark
        have hb1 : D1.files.length < 4611686018427387904 ∧ D1.changes.length < 1099511627776 := by rcases hD1 with rfl | ⟨_, rfl⟩ <;> exact ⟨hb.files, hb.changes⟩
        have hex : (find D1.now n).isSome = true := by
          have e : D1.now = D.now := by rcases hD1 with rfl | ⟨_, rfl⟩ <;> rfl
          rw [e]; exact gone_zero (by have := h00; unfold Disk.refuseTrunc at this; split at this; exact this; rename_i hc; exact Decidable.not_not.1 hc)
        have hsm1 : ∀ f, f ∈ D1.files → FileS.Small f := by
          have e : D1.files = D.files := by rcases hD1 with rfl | ⟨_, rfl⟩ <;> rfl
          rw [e]; exact hsm
        have hk2 : 0 ≤ k ∧ k ≤ 4611686018427387904 := trunc_bound hb.len h00
        refine (truncate11 g1 hw1 n hex hsm1 k hk2.1 hk2.2 _ _ _ (c0.ext (B := B) (b := b) g2 g3) (c1.ext (B := B) (b := b) g2 g3) (c2.ext (B := B) (b := b) g2 g3)).mono ?_
        rintro e W' ⟨rfl, hx⟩
        exact ⟨rfl, Ext.trans g2 g3 hx⟩)
      (.inl ⟨rfl, rfl⟩)
    refine run.mono ?_
    rintro e W' ⟨rfl, hx⟩
    exact ⟨rfl, Ext.trans f0 (fun _ _ h => h) hx⟩
  unfold dptr at key ⊢
  have KEY := Lib.hid key
  clear key l0
  go_enter Tryz.func77, Tryz.ntmps77
  go_wp2_with fail
  refine (KEY.out _ rfl).mono ?_
  rintro e W' ⟨rfl, hx⟩
  generalize hev : errV eb (D.truncate n k).1 = ev
  go_wp2
  go_ret
  rw [hev]
  exact ⟨rfl, hx⟩
end Go.Proofs.YtpckkdjdjkjapaaGreatDoor.Dw


/- A disk with its invariants and its measures: the rest of its calls. -/
namespace Go.Proofs.YtpckkdjdjkjapaaGreatDoor.Dm
set_option linter.unusedVariables false
end Go.Proofs.YtpckkdjdjkjapaaGreatDoor.Dm
namespace Go.Proofs.YtpckkdjdjkjapaaGreatDoor.Dw
open Go.RowKit Go.ChangeMaps Go.Proofs.YtpckkdjdjkjapaaGreatDoor.Mp Go.Proofs.YtpckkdjdjkjapaaGreatDoor.Dm Go.Proofs.YtpckkdjdjkjapaaGreatDoor.Da
set_option linter.unusedVariables false
set_option linter.unusedSimpArgs false
set_option linter.unusedSectionVars false
theorem small_of {D : Disk} (hi : Inv D) (hl : ∀ f, f ∈ D.files → f.seen.length ≤ 4398046511104) : ∀ f, f ∈ D.files → FileS.Small f := by
  intro f hf
  have hk := hi.files f hf
  have h1 := hl f hf
  have h2 := hk.sub
  have hs : sectors f.seen.length ≤ 4398046511104 := by unfold sectors; omega
  have hs2 : sectors f.safe.length ≤ 4398046511104 := by unfold sectors; omega
  exact ⟨h1, by omega, fun k h => by have := hk.bseen k h; omega, fun k h => by have := hk.bsafe k h; omega, fun k h => by have := hk.wlt k h; omega⟩
section
variable {B : Nat} {w : World} {b : Nat} {lab : Nat → Option Lb} {eb : Nat → Addr} {L : List Err} {n m : Nat} {D : Disk}
theorem Live.truncateW (h : Live B w b lab eb L n m D) (hf : DFit (n + 1) m) (nm : Name) (k : Int) (hk : -9223372036854775808 ≤ k ∧ k ≤ 9223372036854775807) :
    Calls Tryz.prog 77 #[dptr b, .string nm, .int .i64 k] w fun e w' => e = .returned (errV eb (D.truncate nm k).1) ∧ Next B w lab w' b eb L (n + 1) m (D.truncate nm k).2 := by
  obtain ⟨A, h1⟩ := h.dsk
  refine (truncate_calls h1 h.ers h.inv.wf h.bnd nm k hk (small_of h.inv h.bnd.len)).mono ?_
  rintro e w' ⟨he, hx⟩
  exact ⟨he, h.next hx (h.inv.opTruncate nm k) (h.sz.opTruncate nm k) hf⟩
end
end Go.Proofs.YtpckkdjdjkjapaaGreatDoor.Dw


/- Appending to a segment; cutting it. -/
namespace Go.Proofs.YtpckkdjdjkjapaaGreatDoor.Dw
open Go.RowKit Go.ChangeMaps Go.Proofs.YtpckkdjdjkjapaaGreatDoor.Mp Go.Proofs.YtpckkdjdjkjapaaGreatDoor.Dm Go.Proofs.YtpckkdjdjkjapaaGreatDoor.Da Go.Shelf
open Go.Proofs.YtpckkdjdjkjapaaGreatDoor.Sg (SegS packE)
open Go.Proofs.YtpckkdjdjkjapaaGreatDoorW.PrintWords (ReadsInt string_of_reads)
set_option linter.unusedVariables false
set_option linter.unusedSimpArgs false
set_option linter.unusedSectionVars false
section
variable {B : Nat} {w : World} {b : Nat} {lab : Nat → Option Lb} {eb : Nat → Addr} {L : List Err} {n m : Nat} {D : Disk} {sb : Nat} {s : SegS}
set_option maxRecDepth 100000 in
theorem cut_whole (h : SegL B w b lab eb L n m D sb s) (hs : s.sick = false) (hw : s.whole = true) : Calls Tryz.prog 44 #[segP sb] w fun e w' => e = .returned .nilIface ∧ w' = w := by
  obtain ⟨c0, c1, c2, c3, c4, c5⟩ := h.cell
  rw [hw] at c4
  rw [hs] at c5
  clear h hs hw
  unfold segP
  go_enter Tryz.func44, Tryz.ntmps44
  go_wp2
  go_ret
  exact ⟨rfl, rfl⟩
set_option maxRecDepth 100000 in
set_option maxHeartbeats 1000000 in
/-- What stands behind the good blocks is taken off. -/
theorem cut_goes (h : SegL B w b lab eb L n m D sb s) (hs : s.sick = false) (hw : s.whole = false) (hf : DFit (n + 1) m) :
    Calls Tryz.prog 44 #[segP sb] w fun e w' => e = .returned (errV eb (D.truncate s.nm ((s.blocks * 512 : Nat) : Int)).1) ∧ NextS B w lab w' b eb L (n + 1) m (D.truncate s.nm ((s.blocks * 512 : Nat) : Int)).2 sb (if (D.truncate s.nm ((s.blocks * 512 : Nat) : Int)).1 = 0 then { s with whole := true } else s.met (D.truncate s.nm ((s.blocks * 512 : Nat) : Int)).1) := by
  obtain ⟨c0, c1, c2, c3, c4, c5⟩ := h.cell
  rw [hw] at c4
  rw [hs] at c5
  have hbb := h.blo
  obtain ⟨q, hq⟩ : ∃ q : Nat, q = s.blocks * 512 := ⟨_, rfl⟩
  have hq2 : Hid ((s.blocks : Int) * 512 = (q : Int) ∧ q ≤ 9223372036854775807) := Lib.hid ⟨by omega, by omega⟩
  rw [← hq]
  have HQ := Lib.hid hq
  clear hq
  have KS : ∀ W, Frm (fun _ => False) w W → Calls Tryz.prog 77 #[dptr b, .string s.nm, .int .i64 (IntKind.i64.wrap ((s.blocks : Int) * 512))] W fun e w' => e = .returned (errV eb (D.truncate s.nm q).1) ∧ NextS B w lab w' b eb L (n + 1) m (D.truncate s.nm q).2 sb s := fun W hW => by
    have := hq2.out.2
    have e1 : IntKind.i64.wrap ((s.blocks : Int) * 512) = (q : Int) := by have := hq2.out.1; rw [IntKind.wrap_i64]; omega
    rw [e1]
    refine ((h.frm hW).live.truncateW hf s.nm q ⟨by omega, by omega⟩).mono ?_
    rintro e w' ⟨rfl, hn⟩
    exact ⟨rfl, ((h.frm hW).turn hn).from_ hW⟩
  have KS2 := Lib.hid KS
  clear KS
  have S0 : Hid (w.cell? ⟨sb, 0, none⟩ = some (dptr b) ∧ w.cell? ⟨sb, 1, none⟩ = some (.string s.nm) ∧ w.cell? ⟨sb, 3, none⟩ = some (.int .i64 s.blocks)) := Lib.hid ⟨c0, c1, c3⟩
  have KM := Lib.hid (fun (W : World) (hW : NextS B w lab W b eb L (n + 1) m (D.truncate s.nm q).2 sb s) => hW.met_calls (D.truncate s.nm q).1)
  have ZZ : Hid (∀ W (s' : SegS), s'.nm = s.nm → s'.blocks = s.blocks → NextS B w lab W b eb L (n + 1) m (D.truncate s.nm q).2 sb s' → W.cell? ⟨sb, 0, none⟩ = some (dptr b) ∧ W.cell? ⟨sb, 1, none⟩ = some (.string s.nm) ∧ W.cell? ⟨sb, 3, none⟩ = some (.int .i64 s.blocks)) := Lib.hid (fun W s' hs hb hW => by
    obtain ⟨lab', h1⟩ := hW.seg
    exact ⟨h1.cell.1, hs ▸ h1.cell.2.1, hb ▸ h1.cell.2.2.2.1⟩)
  have HBD : Hid (s.nm.size ≤ 9223372036854775807 ∧ s.sick = false ∧ s.next ≤ 9223372036854775807 ∧ s.blocks ≤ 4398046511104) := Lib.hid ⟨h.nm, hs, h.nxt, h.blo⟩
  generalize (D.truncate s.nm q).1 = ca at *
  generalize (D.truncate s.nm q).2 = D2 at *
  clear h hs hw
  unfold segP at *
  by_cases hca : ca = 0
  · subst hca
    rw [if_pos rfl]
    have TT : Hid (∀ W, NextS B w lab W b eb L (n + 1) m D2 sb (s.met 0) → W.cell? ⟨sb, 4, none⟩ = some (.bool s.whole) ∧ W.frozen? ⟨sb, 4, none⟩ = false ∧
        NextS B w lab (W.setCell ⟨sb, 4, none⟩ (.bool true)) b eb L (n + 1) m D2 sb { s with whole := true }) := Lib.hid (fun W hW => by
      obtain ⟨lab1, h1⟩ := hW.seg
      refine ⟨h1.cell.2.2.2.2.1, h1.free 4, hW.trans fun lab2 h2 => h2.put (set_frm _ 4) ?_ HBD.out.1 HBD.out.2.2.1 HBD.out.2.2.2⟩
      rw [blk_set h2.blk]
      unfold segC SegS.met
      simp [HBD.out.2.1])
    simp only [errV_zero] at *
    go_enter Tryz.func44, Tryz.ntmps44
    go_upto_region 7 with (fail)
    go_region_held3 (fun W => W.cell? ⟨sb, 0, none⟩ = some (dptr b) ∧ W.cell? ⟨sb, 1, none⟩ = some (.string s.nm) ∧ W.cell? ⟨sb, 3, none⟩ = some (.int .i64 s.blocks))
      (first | exact S0.out | exact ZZ.out _ s rfl rfl HX.out | exact ZZ.out _ (s.met 0) rfl rfl HY.out | go_keep)
      (first
        | (go_at_call 77; (with_reducible refine (KS2.out _ (by first | exact Frm.refl _ _ | exact (Frm.refl _ _).drew)).mono ?_); rintro e u1 ⟨rfl, f1⟩; have HX := Lib.hid f1; clear f1)
        | (go_at_call 95; (with_reducible refine (KM.out _ HX.out).mono ?_); rintro e u2 ⟨rfl, f2⟩; have HY := Lib.hid f2; clear f2))
    all_goals
      obtain ⟨d2, f2, hlast⟩ := TT.out _ HY.out
      have HLAST := Lib.hid hlast
      clear hlast
      go_wp2
      go_ret
      exact ⟨rfl, HLAST.out⟩
  · rw [if_neg hca]
    have hce : errV eb ca = .iface 320 (.pointer (some (eb ca))) := by unfold errV; rw [if_neg hca]
    simp only [hce] at KS2 KM ⊢
    clear hca hce
    go_enter Tryz.func44, Tryz.ntmps44
    go_upto_region 7 with (fail)
    go_region_held3 (fun W => W.cell? ⟨sb, 0, none⟩ = some (dptr b) ∧ W.cell? ⟨sb, 1, none⟩ = some (.string s.nm) ∧ W.cell? ⟨sb, 3, none⟩ = some (.int .i64 s.blocks))
      (first | exact S0.out | exact ZZ.out _ s rfl rfl HX.out | exact ZZ.out _ (s.met ca) rfl rfl HY.out | go_keep)
      (first
        | (go_at_call 77; (with_reducible refine (KS2.out _ (by first | exact Frm.refl _ _ | exact (Frm.refl _ _).drew)).mono ?_); rintro e u1 ⟨rfl, f1⟩; have HX := Lib.hid f1; clear f1)
        | (go_at_call 95; (with_reducible refine (KM.out _ HX.out).mono ?_); rintro e u2 ⟨rfl, f2⟩; have HY := Lib.hid f2; clear f2))
    all_goals
      go_wp2
      go_ret
      exact ⟨rfl, HY.out⟩
end
end Go.Proofs.YtpckkdjdjkjapaaGreatDoor.Dw


/- Walks: lists of records compared. -/
namespace Go.Proofs.YtpckkdjdjkjapaaGreatDoor.Dw
open Go.RowKit Go.ChangeMaps Go.Proofs.YtpckkdjdjkjapaaGreatDoor.Mp Go.Proofs.YtpckkdjdjkjapaaGreatDoor.Dm Go.Proofs.YtpckkdjdjkjapaaGreatDoor.Da Go.Shelf
open Go.Proofs.YtpckkdjdjkjapaaGreatDoorW.PrintWords (ReadsInt string_of_reads)
set_option linter.unusedVariables false
set_option linter.unusedSimpArgs false
set_option linter.unusedSectionVars false
theorem take_succ_eq {α : Type} {ls ms : List α} {i : Nat} (h : ls.take i = ms.take i) (h1 : i < ls.length) (h2 : i < ms.length) (he : ls[i] = ms[i]) : ls.take (i + 1) = ms.take (i + 1) := by
  rw [List.take_succ_eq_append_getElem h1, List.take_succ_eq_append_getElem h2, h, he]
set_option maxHeartbeats 1000000 in
set_option maxRecDepth 100000 in
theorem lists_calls (w : World) (A1 A2 : Option Addr) (c1 c2 : Nat) (ls ms : List Sg.Bytes) (h1 : RecsAt w A1 ls) (h2 : RecsAt w A2 ms) (hl1 : ls.length ≤ 4611686018427387904) (hl2 : ms.length ≤ 4611686018427387904) (hc1 : ls.length ≤ c1) (hc2 : ms.length ≤ c2)
    (hb1 : ∀ r, r ∈ ls → ∀ x, x ∈ r → 0 ≤ x ∧ x < 256) (hb2 : ∀ r, r ∈ ms → ∀ x, x ∈ r → 0 ≤ x ∧ x < 256) :
    Calls Tryz.prog 37 #[.slice A1 ls.length c1, .slice A2 ms.length c2] w fun e w' => e = .returned (.bool (decide (ls = ms))) ∧ Frm (fun _ => False) w w' := by
  obtain ⟨n1, hn1⟩ : ∃ n, n = ls.length := ⟨_, rfl⟩
  obtain ⟨n2, hn2⟩ : ∃ n, n = ms.length := ⟨_, rfl⟩
  rw [← hn1] at hl1 hc1 ⊢
  rw [← hn2] at hl2 hc2 ⊢
  have HN := Lib.hid (And.intro hn1 hn2)
  have H12 := Lib.hid (And.intro h1 (And.intro h2 (And.intro hb1 hb2)))
  by_cases hne : n1 = n2
  · subst hne
    clear h1 h2 hn1 hn2 hb1 hb2
    have hbeq : ((n1 : Int) != (n1 : Int)) = false := by simp
    go_enter Tryz.func37, Tryz.ntmps37
    go_wp2
    go_loopw [5] (fun iv wr => ∃ i, iv = .int .i64 (i : Nat) ∧ i ≤ n1 ∧ ls.take i = ms.take i ∧ Frm (fun _ => False) w wr) (fun iv _ => n1 - (intOf iv).toNat)
    case atStart => exact ⟨0, rfl, Nat.zero_le _, by simp, Frm.refl _ _⟩
    case round =>
      obtain ⟨i, rfl, hi, htk, hfr⟩ := hrel
      have HR := Lib.hid (And.intro htk hfr)
      clear htk hfr
      by_cases hlt : i < n1
      · obtain ⟨hh1, hh2, hb1, hb2⟩ := H12.out
        obtain ⟨⟨g1, o1, s1⟩, p1, k1, rfl, q1, q2, q3⟩ := hh1 i (by have := HN.out.1; omega)
        obtain ⟨⟨g2, o2, s2⟩, p2, k2, rfl, r1, r2, r3⟩ := hh2 i (by have := HN.out.2; omega)
        obtain rfl : s1 = none := hh1.spot (by have := HN.out.1; omega)
        obtain rfl : s2 = none := hh2.spot (by have := HN.out.2; omega)
        rw [addO] at q1 r1
        obtain ⟨x, hx⟩ : ∃ x, x = ls[i]'(by have := HN.out.1; omega) := ⟨_, rfl⟩
        obtain ⟨y, hy⟩ : ∃ y, y = ms[i]'(by have := HN.out.2; omega) := ⟨_, rfl⟩
        rw [← hx] at q1 q2 q3
        rw [← hy] at r1 r2 r3
        have z1 : ∀ W, Frm (fun _ => False) w W → W.cell? ⟨g1, o1 + i, none⟩ = some (.slice p1 x.length k1) ∧ W.cell? ⟨g2, o2 + i, none⟩ = some (.slice p2 y.length k2) ∧ (convert 40 9 (.slice p1 x.length k1)).run Tryz.prog W = .ok (.string (strOfNums x)) W ∧ (convert 40 9 (.slice p2 y.length k2)).run Tryz.prog W = .ok (.string (strOfNums y)) W := fun W hW =>
          ⟨(hW.cell (World.block_lt_of_cell? _ _ q1) id).trans q1, (hW.cell (World.block_lt_of_cell? _ _ r1) id).trans r1, string_of_reads Tryz.underlying40 Tryz.underlying5 Tryz.underlying9 (reads_frm q3 hW), string_of_reads Tryz.underlying40 Tryz.underlying5 Tryz.underlying9 (reads_frm r3 hW)⟩
        have S0 := Lib.hid (z1 wr HR.out.2)
        have D0 := Lib.hid (z1 wr.drew HR.out.2.drew)
        have hstr : ((strOfNums x).toList == (strOfNums y).toList) = decide (x = y) := strBeq _ _ _ (by
          rw [decide_eq_true_iff]
          exact ⟨fun h => by rw [h], fun h => strInj (hb1 x (by rw [hx]; exact List.getElem_mem _)) (hb2 y (by rw [hy]; exact List.getElem_mem _)) h⟩)
        have HXY := Lib.hid (And.intro hx hy)
        clear q1 q2 q3 r1 r2 r3 z1 hx hy hh1 hh2 hb1 hb2
        by_cases hxy : x = y
        · rw [decide_eq_true hxy] at hstr
          have HE := Lib.hid hxy
          clear hxy
          go_upto_region 6 with (fail)
          go_region_held3 (fun W => W.cell? ⟨g1, o1 + i, none⟩ = some (.slice p1 x.length k1) ∧ W.cell? ⟨g2, o2 + i, none⟩ = some (.slice p2 y.length k2) ∧ (convert 40 9 (.slice p1 x.length k1)).run Tryz.prog W = .ok (.string (strOfNums x)) W ∧ (convert 40 9 (.slice p2 y.length k2)).run Tryz.prog W = .ok (.string (strOfNums y)) W)
            (first | exact S0.out | exact D0.out | go_keep) (fail)
          all_goals
            go_wp2
            have htk2 := take_succ_eq HR.out.1 (by have := HN.out.1; omega) (by have := HN.out.2; omega) (by rw [← HXY.out.1, ← HXY.out.2]; exact HE.out)
            exact ⟨⟨i + 1, by go_num, by omega, htk2, HR.out.2.drew⟩, by simp [intOf]; omega⟩
        · rw [decide_eq_false hxy] at hstr
          have HE := Lib.hid hxy
          clear hxy
          go_upto_region 6 with (fail)
          go_region_held3 (fun W => W.cell? ⟨g1, o1 + i, none⟩ = some (.slice p1 x.length k1) ∧ W.cell? ⟨g2, o2 + i, none⟩ = some (.slice p2 y.length k2) ∧ (convert 40 9 (.slice p1 x.length k1)).run Tryz.prog W = .ok (.string (strOfNums x)) W ∧ (convert 40 9 (.slice p2 y.length k2)).run Tryz.prog W = .ok (.string (strOfNums y)) W)
            (first | exact S0.out | exact D0.out | go_keep) (fail)
          all_goals
            go_wp2
            go_ret
            refine ⟨?_, HR.out.2.drew⟩
            have e : ¬ ls = ms := fun e => HE.out (by rw [HXY.out.1, HXY.out.2]; simp only [e])
            rw [decide_eq_false e]
            rfl
      · obtain rfl : i = n1 := by omega
        go_wp2
        go_ret
        refine ⟨?_, HR.out.2⟩
        have e : ls = ms := by
          have := HR.out.1
          rwa [List.take_of_length_le (by have := HN.out.1; omega), List.take_of_length_le (by have := HN.out.2; omega)] at this
        rw [decide_eq_true e]
        rfl
  · have hne2 : ¬ ls = ms := fun e => hne (by rw [hn1, hn2, e])
    have hd : decide (ls = ms) = false := decide_eq_false hne2
    rw [hd]
    have hbeq : ((n1 : Int) == (n2 : Int)) = false := by simp; omega
    clear h1 h2 hn1 hn2 hb1 hb2 hne2 hd
    go_enter Tryz.func37, Tryz.ntmps37
    go_wp2
    go_ret
    exact ⟨rfl, Frm.refl _ _⟩
end Go.Proofs.YtpckkdjdjkjapaaGreatDoor.Dw
