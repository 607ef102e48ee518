/-
  CmdWords returns true for every kind, word and error; nothing is changed. Condition: none beside the row's own (package-level variables start as the program's text lays them).
-/
import Derived.Test.YtciblegjpgpbfaaGreatDoorCards
import Derived.Test.YtciblegjpgpbfaaGreatDoorTie
import Derived.WalkKit
import Derived.ProofKit
import Derived.OpenShut
import Derived.Deep.DeepHandedRow
import Derived.Deep.DeepWitnessRowRef
import Derived.Lib.LaidTab
import Derived.Lib.LaidIn
import Derived.LaidSub
import Derived.Test.YtciblegjpgpbfaaGreatDoorKnAll
import Derived.Test.YtciblegjpgpbfaaGreatDoorCmdWordsAm
import Derived.Test.YtciblegjpgpbfaaGreatDoorCwFacts
namespace Go.Proofs.YtciblegjpgpbfaaGreatDoor.words
open Go.ChangeShapes Go.WideShapes Go.ChangeAt Go.RowKit
open Go.ChangeMaps (open_string shut_string)
open Go.Am
set_option maxRecDepth 100000
set_option linter.unusedSimpArgs false
set_option linter.unusedVariables false

/-- What the machine's step leaves as it was, where nothing may be written. -/
theorem kept_of {P : Program} {ρ ρ' : Am.Map} {H H' : AH} {w w' : World} (hn : NoOwn H) (hs : Stp P ρ H w ρ' H' w') : w.keptBut w' (fun _ => False) := by
  have hold : ∀ k, k < w.heap.size → w'.heap[k]? = w.heap[k]? := fun k hk => hs.frame k hk fun b B l h1 h2 _ => by rw [hn b B h1] at h2; cases h2
  refine ⟨hs.io.1, hs.io.2, fun i hi => ?_⟩
  rw [hold i hi]
  cases w.heap[i]? with
  | none => rfl
  | some o => cases o <;> first | exact ⟨rfl, rfl, rfl, fun _ _ => rfl⟩ | exact .inr ⟨rfl, rfl⟩ | rfl

theorem hP : Tryz.prog.follows .mixedOrders = true := by kernel_rfl

/-- known(), as a call that is known. -/
noncomputable def knownCall : ACall := fun g args y H => cond (Nat.beq g 4) (Kn.e772.prim Tryz.prog Kn.G g args y H) none
theorem known_mem : Kn.e772 ∈ Tab.flat Kn.T := Tab.mem_flat (g := 4) (es := Kn.t4) (by kernel_rfl) _ (by unfold Kn.t4; exact List.mem_singleton_self _)
noncomputable def R : Prims where
  call := knownCall
  mono := fun g args y y' H h => by
    unfold knownCall
    cases Nat.beq g 4 with
    | false => rfl
    | true =>
      cases y with
      | none => cases y' with
        | none => rfl
        | some z => exact h.elim
      | some z => cases y' with
        | none => exact h.elim
        | some z' => rfl
theorem primOk : PrimOk Tryz.prog knownCall := by
  have hk := Tab.kept hP Kn.all known_mem
  have h4 : ∀ g args y H r, knownCall g args y H = some r → g = 4 ∧ Kn.e772.prim Tryz.prog Kn.G g args y H = some r := by
    intro g args y H r h
    unfold knownCall at h
    cases hb : Nat.beq g 4 with
    | false => rw [hb] at h; cases h
    | true => rw [hb] at h; exact ⟨Nat.eq_of_beq_eq_true hb, h⟩
  refine ⟨fun g args y H r h => ?_, fun g args y H r h => ?_⟩
  · obtain ⟨rfl, h⟩ := h4 g args y H r h
    exact hk.1 args y H r h
  · obtain ⟨rfl, h⟩ := h4 g args y H r h
    exact hk.2 args y H r h

theorem off4 (g : Nat) (args : List AV) (H : AH) (h : g ≠ 4) : R.call g args none H = none := by
  show knownCall g args none H = none
  unfold knownCall
  rw [beq_f h]; rfl
theorem on4 : ∃ H', R.call 4 [] none (bareG Tryz.prog Kn.G) = some (.ret (.atom (.bool true)) H') := ⟨bareG Tryz.prog Kn.G, by kernel_rfl⟩


theorem own : ownKnob Tryz.prog.godebug = none := by kernel_rfl
theorem gn1 : Tryz.prog.globalNamed "surd/radix.signs" = some 1 := by kernel_rfl
theorem gn1Type : (Tryz.prog.globals[1]?).map (·.type) = some 358 := by kernel_rfl
theorem cells358 : Tryz.prog.cellsOf 358 = 36 := by kernel_rfl
theorem cells5 : Tryz.prog.cellsOf 5 = 1 := by kernel_rfl
theorem nglob : Tryz.prog.globals.size = 11 := by kernel_rfl
def signs : List Int := [48, 49, 50, 51, 52, 53, 54, 55, 56, 57, 97, 98, 99, 100, 101, 102, 103, 104, 105, 106, 107, 108, 109, 110, 111, 112, 113, 114, 115, 116, 117, 118, 119, 120, 121, 122]
theorem table {W : World} (h : laidMetH Tryz.prog Rows.cmdWordsRow.laid W) : Lib.TabIs Tryz.prog W "surd/radix.signs" .u8 signs :=
  Lib.tabIs_of_head (rest := []) gn1 gn1Type Tryz.underlying358 Tryz.underlying5 cells5 cells358 (laidMetH.filter (fun x => x.1 == "surd/radix.signs") h)

theorem shapes : ((List.range 11).all fun g => (((begin Tryz.prog (fun _ _ => 0) default).world.heap[g]?).bind Obj.row?).isSome) = true := by kernel_rfl
theorem shape1 : (((begin Tryz.prog (fun _ _ => 0) default).world.heap[1]?).bind Obj.row?).map (fun x => (x.1.size, x.2)) = some (36, 358) := by kernel_rfl

/-- where the globals lie -/
def places : Am.Map := fun b => if b < 11 then some ⟨b, 0, if b = 1 then 36 else 0⟩ else none

theorem start {W : World} (hS : W.ShapedOpen Tryz.prog) (hL : laidMetH Tryz.prog Rows.cmdWordsRow.laid W) : Inv Tryz.prog places (bareG Tryz.prog Kn.G) W ∧ NoOwn (bareG Tryz.prog Kn.G) := by
  have hrow : ∀ g, g < 11 → ∃ cs t, W.heap[g]? = some (.cells cs t) := by
    intro g hg
    have := List.all_eq_true.1 shapes g (List.mem_range.2 hg)
    obtain ⟨⟨zero, t⟩, hz⟩ := Option.isSome_iff_exists.1 this
    obtain ⟨cs, h1, _⟩ := hS.1 g zero t (by rw [nglob]; exact hg) hz
    exact ⟨cs, t, h1⟩
  have hlt : ∀ g, g < 11 → g < W.heap.size := fun g hg => by
    obtain ⟨cs, t, h⟩ := hrow g hg
    exact (Array.getElem?_eq_some_iff.1 h).1
  have hget : ∀ b B, (bareG Tryz.prog Kn.G).get b = some B → b = 1 ∧ B = { cells := (signs.map fun z => Value.int .u8 z).map AV.atom, elem := 358, own := false } := by
    intro b B h
    have e : bareG Tryz.prog Kn.G = (bare Tryz.prog).put 1 (some { cells := (signs.map fun z => Value.int .u8 z).map AV.atom, elem := 358, own := false }) := rfl
    rw [e] at h
    by_cases hb : b = 1
    · subst hb; rw [AH.get_put_same] at h; cases h; exact ⟨rfl, rfl⟩
    · rw [AH.get_put_ne _ _ hb] at h; cases h
  have hno : NoOwn (bareG Tryz.prog Kn.G) := fun b B h => by rw [(hget b B h).2]
  refine ⟨{ lt := ?_, blk := ?_, apart := ?_, old := ?_, glob := ?_ }, hno⟩
  · intro b l h
    unfold places at h
    split at h
    · cases h; exact hlt b (by assumption)
    · cases h
  · intro b B l h1 h2
    obtain ⟨rfl, rfl⟩ := hget b B h1
    cases h2
    obtain ⟨⟨zero, t⟩, hz, hz'⟩ := Option.map_eq_some_iff.1 shape1
    simp only [Prod.mk.injEq] at hz'
    obtain ⟨hz1, rfl⟩ := hz'
    obtain ⟨cs, k1, k2, _⟩ := hS.1 1 zero 358 (by rw [nglob]; decide) hz
    have hv := table hL
    unfold Lib.TabIs World.var? at hv
    rw [gn1, Option.bind_some, k1] at hv
    have hcs := Option.some.inj hv
    refine ⟨cs, (0, 0), k1, ?_, ?_, ?_, ⟨fun e => (by cases e), fun e => (by cases e)⟩⟩
    · exact Nat.le_refl 36
    · show 0 + 36 ≤ cs.size; omega
    · show VRels places ((signs.map fun z => Value.int .u8 z).map AV.atom) ((cs.toList.drop 0).take 36)
      rw [hcs]
      exact VRels.atoms (signs.map fun z => Value.int .u8 z)
  · intro b b' B B' l l' _ h1 _ _ _ ho
    rw [hno b B h1] at ho; cases ho
  · intro b B h
    rw [(hget b B h).1, bareG_next, nglob]; decide
  · intro g hg
    rw [nglob] at hg
    exact ⟨if g = 1 then 36 else 0, by unfold places; rw [if_pos hg]⟩

/-- THE CALL: true, whatever the input. -/
theorem walk (k : Int) (s : ByteArray) (er : Int) {W : World} (hS : W.ShapedOpen Tryz.prog) (hL : laidMetH Tryz.prog Rows.cmdWordsRow.laid W) :
    Calls Tryz.prog 3 #[.int .i64 k, .string s, .int .i64 er] W fun e w' => e = .returned (.bool true) ∧ W.keptBut w' (fun _ => False) := by
  obtain ⟨hi, hno⟩ := start hS hL
  obtain ⟨N, r, h1, H', rfl⟩ := Words.law_ok (R := R) k s er (bareG Tryz.prog Kn.G) off4 on4
  have hc := (callA_sound hP primOk N N).ok 3 _ none _ _ h1 places W #[.int .i64 k, .string s, .int .i64 er] hi (.cons (.atom _) (.cons (.atom _) (.cons (.atom _) .nil))) YOk.none YMono.none
    (fun b h _ => by rw [bareG_next, nglob] at h; unfold places; rw [if_neg (by omega)])
  refine (callsIn_wide.1 hc).mono fun e w' hh => ?_
  cases hh with
  | ret hv hs =>
    cases hv
    exact ⟨rfl, kept_of hno hs⟩


/-- WHAT THE WALK GIVES, FOR EVERY ARGUMENT AND EVERY WORLD THAT FITS. -/
theorem contract (H : Type) (enc : TypeId × Value → H) (W : World) (base : Nat) (args : Array Value) (ds gs : List (DataW H)) (before : List MemPlace)
    (hval : ∀ (j : Nat) t v, Tryz.f3.params[j]? = some t → args[j]? = some v → Value.okWide Tryz.prog W .any base t v)
    (hW : DataW.Whole enc Tryz.prog Tryz.f3.params.toList Rows.cmdWordsSpec.vars false W args.toList ds gs before) (hL : laidMetH Tryz.prog Rows.cmdWordsRow.laid W) (hS : W.ShapedOpen Tryz.prog) :
    Calls Tryz.prog 3 args W fun e W' => ∃ v, e = .returned v ∧ Rows.cmdWordsSpec.post enc Tryz.prog Tryz.f3 false true false false W args v W' := by
  have hW' := hW
  obtain ⟨p, q, hA0, hV, rfl, hfz, hnd⟩ := hW
  have hA : DataW.TrodAll enc Tryz.prog W 0 (fun _ => true) true Tryz.f3.params.toList args.toList ds p := hA0
  rw [Tryz.params3] at hA hval
  obtain ⟨v0, vs0, d0, ds0, p0, q0, hargs, rfl, rfl, h0, r0⟩ := trodAll_cons hA
  obtain ⟨v1, vs1, d1, ds1, p1, q1, rfl, rfl, rfl, h1, r1⟩ := trodAll_cons r0
  obtain ⟨v2, vs2, d2, ds2, p2, q2, rfl, rfl, rfl, h2, r2⟩ := trodAll_cons r1
  obtain ⟨rfl, rfl, rfl⟩ := trodAll_nil r2
  obtain rfl : args = #[v0, v1, v2] := by cases args; simp_all
  obtain ⟨rfl, rfl⟩ := trodVars_none hV
  obtain ⟨k, rfl, rfl, rfl, wk⟩ := open_int Tryz.underlying3 (hval 0 3 v0 rfl rfl) h0
  obtain ⟨s, rfl, rfl, rfl, ws⟩ := open_string Tryz.underlying9 (hval 1 9 v1 rfl rfl) h1
  obtain ⟨er, rfl, rfl, rfl, we⟩ := open_int Tryz.underlying3 (hval 2 3 v2 rfl rfl) h2
  clear hA0
  simp only [List.append_nil] at hW'
  refine (walk k s er hS hL).mono fun e W' ⟨he, hg⟩ => ?_
  subst he
  have e1 : Rows.cmdWordsSpec.fn H ([.lit (.int .i64 k), .lit (.string s.data.toList), .lit (.int .i64 er)] ++ []) = { results := [.lit (.bool true)], args := [.lit (.int .i64 k), .lit (.string s.data.toList), .lit (.int .i64 er)] } := rfl
  refine ⟨_, rfl, _, _, _, [], [], [], hW', ?_, ?_, ?_, World.keptBut_mono (fun _ f => f.elim) hg, fun h => by cases h⟩
  · rw [e1]; exact trodAll_mk1 (shut_bool Tryz.underlying4 _)
  · rw [e1]; exact trodAll_cons_mk (shut_int Tryz.underlying3 wk) (trodAll_cons_mk (shut_string Tryz.underlying9 ws) (trodAll_cons_mk (shut_int Tryz.underlying3 we) trodAll_mk0))
  · rw [e1]; rfl

/-! ### One input that fits -/
def flat : List (DataW Unit) → List Value
  | .lit (.int k z) :: r => .int k z :: flat r
  | .agg [.lit (.int k z), .lit (.int k' z')] :: r => .int k z :: .int k' z' :: flat r
  | _ => []
def cellsOf : DataW Unit → Array Value
  | .agg l => (flat l).toArray
  | _ => #[]
noncomputable def laidWorld (os : Os) : World :=
  let N := (World.settled Tryz.prog os).heap.size
  let w0 := World.holding Tryz.prog os ⟨#[.cells #[.string ⟨#[105, 110, 118, 97, 108, 105, 100, 32, 115, 121, 110, 116, 97, 120]⟩] 465, .cells #[.string ⟨#[118, 97, 108, 117, 101, 32, 111, 117, 116, 32, 111, 102, 32, 114, 97, 110, 103, 101]⟩] 465], #[], []⟩
  let put (h : Array Obj) (g : Nat) (cs : Array Value) : Array Obj := h.modify g fun
    | .cells _ t frozen => .cells cs t frozen
    | o => o
  let h1 := put w0.heap 1 (cellsOf Rows.laid_surd_radix_signs)
  let h2 := put h1 2 (cellsOf Rows.laid_internal_strconv_uint64pow10)
  let h3 := put h2 3 #[.iface 463 (.pointer (some ⟨N, 0, none⟩))]
  let h4 := put h3 4 #[.iface 463 (.pointer (some ⟨N + 1, 0, none⟩))]
  let h5 := put h4 5 (cellsOf Rows.laid_math_bits_deBruijn32tab)
  let h6 := put h5 6 (cellsOf Rows.laid_math_bits_deBruijn64tab)
  let h7 := put h6 9 (cellsOf Rows.laid_unicode_utf8_first)
  let h8 := put h7 10 (cellsOf Rows.laid_unicode_utf8_acceptRanges)
  { w0 with heap := h8 }
def witArgs : Array Value := #[.int .i64 0, .string ⟨#[]⟩, .int .i64 0]
theorem laid_met (os : Os) : laidMet Tryz.prog Rows.cmdWordsRow.laid ((laidWorld os).forCall (fun _ _ => 0) ⟨#[], witArgs, []⟩).memory :=
  laidMet_of_run' 8 (by kernel_rfl) (by kernel_rfl)
theorem witness_row (os : Os) {H : Type} (enc : TypeId × Value → H) :
    (OpenSpec.ofChange Rows.cmdWordsSpec).preRow enc Tryz.prog Tryz.f3 Rows.cmdWordsRow.domain false Rows.cmdWordsRow.laid ((laidWorld os).forCall (fun _ _ => 0) ⟨#[], witArgs, []⟩).memory witArgs := by
  have hw : (DataW.whole enc Tryz.prog ((laidWorld os).forCall (fun _ _ => 0) ⟨#[], witArgs, []⟩).memory Tryz.f3.params.toList Rows.cmdWordsSpec.vars false witArgs.toList 8).map (fun x => (x.1, x.2.1)) =
      some ([.lit (.int .i64 0), .lit (.string []), .lit (.int .i64 0)], []) := by kernel_rfl
  obtain ⟨⟨x1, x2, x3⟩, hx, hx1⟩ := Option.map_eq_some_iff.1 hw
  simp only [Prod.mk.injEq] at hx1
  obtain ⟨rfl, rfl⟩ := hx1
  exact OpenSpec.preRow_of_cond 8 hx (by kernel_rfl) (fun k hk => by cases hk) (by kernel_rfl) (laid_met os)

theorem lifted (os : Os) (started : os.Started) (H : Type) (enc : TypeId × Value → H) (F : Stop.Interp) :
    ReturnsInHanded {} Tryz.checked os 3 .any ((OpenSpec.ofChange Rows.cmdWordsSpec).preRow enc Tryz.prog Tryz.f3 Rows.cmdWordsRow.domain false Rows.cmdWordsRow.laid) (((OpenSpec.ofChange Rows.cmdWordsSpec).at F).post enc Tryz.prog Tryz.f3 false true false false) := by
  refine returnsInHanded_of_row (C := Tryz.checked) (s := OpenSpec.ofChange Rows.cmdWordsSpec) own started (by kernel_rfl) Tryz.func3
    (witness_row_atRef (enc := enc) (C := Tryz.checked) false (laidWorld os) witArgs rfl (by kernel_rfl) (by kernel_rfl) (by kernel_rfl) (witness_row os enc)) ?_
  intro W base args ds gs before hval hW _ _ _ hL hS _
  exact contract H enc W base args ds gs before hval hW hL hS

theorem said : Rows.CmdWordsSaid :=
  OpenClaim.holds_of_cond 3 Tryz.f3 rfl rfl rfl rfl rfl rfl rfl ⟨rfl, rfl, rfl, rfl, rfl⟩ rfl rfl rfl rfl rfl (by kernel_rfl) Tryz.func3 closed
    (of_decide_eq_true (by kernel_rfl)) (by unfold Func.isWrapper; first | (rw [if_pos (by decide +kernel)]; kernel_rfl) | (rw [if_neg (by decide +kernel)]; exact ⟨rfl, rfl⟩))
    (fun os started H enc _ F => by rw [OpenClaim.pre_eq_preRow]; exact lifted os started H enc F)
theorem plain (f : FuncId) (fn : Func) (hf : Tryz.pinned.checked.prog.funcNamed "surd/surdlaw27.CmdWords" = some f) (hfn : Tryz.pinned.checked.prog.funcs[f]? = some fn) :
    true = Tryz.pinned.checked.prog.looks [] ∧ ∀ (j : Nat) t, fn.params[j]? = some t → Tryz.pinned.checked.prog.wantsStandIn t = false := by
  obtain rfl : f = 3 := Option.some.inj ((show Tryz.prog.funcNamed "surd/surdlaw27.CmdWords" = some 3 by kernel_rfl).symm.trans hf) |>.symm
  obtain rfl : fn = Tryz.f3 := (Option.some.inj (Tryz.func3.symm.trans hfn)).symm
  refine ⟨by kernel_rfl, fun j t ht => ?_⟩
  rw [Tryz.params3] at ht
  have hm : t = 3 ∨ t = 9 ∨ t = 3 := by simpa using Array.mem_of_getElem? ht
  rcases hm with rfl | rfl | rfl
  · exact (show Tryz.prog.wantsStandIn 3 = false by kernel_rfl)
  · exact (show Tryz.prog.wantsStandIn 9 = false by kernel_rfl)
  · exact (show Tryz.prog.wantsStandIn 3 = false by kernel_rfl)
/-- THE CARD. -/
theorem card : Rows.CmdWordsCardSaid :=
  Claim7.holds_tied_plain_at .later [] _ _ _ _ said (fun _ h => by cases h) (by kernel_rfl) (fun _ h => by cases h) cmdWords_row_tie rfl ⟨rfl, rfl⟩ (by kernel_rfl) rfl plain noGoAt
end Go.Proofs.YtciblegjpgpbfaaGreatDoor.words

namespace Go.Proofs.YtciblegjpgpbfaaGreatDoor
/-- CmdWords, every input: its tied card. -/
theorem cmdWords_holds : Rows.CmdWordsCardSaid := words.card
#print axioms cmdWords_holds
end Go.Proofs.YtciblegjpgpbfaaGreatDoor
