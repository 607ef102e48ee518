/-
  More fuel does no harm: what the machine comes to, it comes to with more rounds and deeper calls. No condition.
-/
import Derived.Test.YtciblegjpgpbfaaGreatDoorAmDraw
namespace Go.Am
open Go

variable {P : Program}

/-- One yield's handler answers where the other does, and the same. -/
def YLe : Option (Nat × Yld) → Option (Nat × Yld) → Prop
  | none, none => True
  | some (k, h), some (k', h') => k = k' ∧ ∀ args H H', h args H = some H' → h' args H = some H'
  | _, _ => False
theorem YLe.refl (y : Option (Nat × Yld)) : YLe y y := by
  cases y with
  | none => trivial
  | some z => exact ⟨rfl, fun _ _ _ h => h⟩

def CLe (c c' : ACall) : Prop := ∀ g args y y' H r, YLe y y' → c g args y H = some r → c' g args y' H = some r

def OLe (a b : Frm → AH → Out) : Prop := ∀ f H r, a f H = some r → b f H = some r

theorem runOp_mono {c c' : ACall} (hc : CLe c c') {y y' : Option (Nat × Yld)} (hy : YLe y y') {ra : Operand → AV} {o : Oper} {H : AH} {r : Ran} (h : runOp P c y ra o H = some r) : runOp P c' y' ra o H = some r := by
  unfold runOp at h ⊢
  cases hop : opA P ra o H with
  | none => rw [hop] at h; cases h
  | some nx =>
    rw [hop] at h
    cases nx with
    | value v H1 => exact h
    | skip H1 => exact h
    | defer g as H1 => exact h
    | panic v H1 => exact h
    | yield k args H1 =>
      simp only at h ⊢
      split at h
      · rename_i k' g
        cases y' with
        | none => exact hy.elim
        | some z =>
          obtain ⟨k2, g2⟩ := z
          obtain ⟨rfl, hg⟩ := hy
          split at h
          · rename_i hkk
            simp only [if_pos hkk]
            cases hr : g args H1 with
            | none => rw [hr] at h; cases h
            | some H2 => rw [hr] at h; rw [hg _ _ _ hr]; exact h
          · cases h
      · cases h
    | enter g args H1 =>
      simp only at h ⊢
      cases hr : c g args none H1 with
      | none => rw [hr] at h; cases h
      | some cr => rw [hr] at h; rw [hc _ _ _ _ _ _ (YLe.refl none) hr]; exact h

theorem regOne_mono {c c' : ACall} (hc : CLe c c') {y y' : Option (Nat × Yld)} (hy : YLe y y') {ops : Array Oper} {o : Oper} {k k' : Frm → AH → Out} (hk : OLe k k') : OLe (regOne P c y ops o k) (regOne P c' y' ops o k') := by
  intro f H r h
  unfold regOne at h ⊢
  split at h
  · cases h
  · exact hk _ _ _ h
  · cases hr : runOp P c y (f.eval P) o H with
    | none => rw [hr] at h; cases h
    | some ran =>
      rw [hr] at h
      rw [runOp_mono hc hy hr]
      cases ran with
      | value v H1 => exact hk _ _ _ h
      | defer g as H1 =>
        simp only [regStep] at h ⊢
        cases hrd : f.rd with
        | true => rw [hrd] at h; cases h
        | false => rw [hrd] at h; exact hk _ _ _ h
      | pan v H1 => exact h

theorem regA_mono {c c' : ACall} (hc : CLe c c') {y y' : Option (Nat × Yld)} (hy : YLe y y') {ops : Array Oper} (l : List Oper) : OLe (regA P c y ops l) (regA P c' y' ops l) := by
  induction l with
  | nil => intro f H r h; exact h
  | cons o l ih => intro f H r h; rw [regA_cons] at h ⊢; exact regOne_mono hc hy ih f H r h

theorem drawA_mono {c c' : ACall} (hc : CLe c c') {y y' : Option (Nat × Yld)} (hy : YLe y y') {ops : Array Oper} (l : List (Oper × Plan)) :
    ∀ f past later r, drawA P c y ops l f past later = some r → drawA P c' y' ops l f past later = some r := by
  induction l with
  | nil => intro f past later r h; exact h
  | cons z l ih =>
    intro f past later r h
    rw [drawA_cons] at h ⊢
    unfold drawOne at h ⊢
    cases past with
    | nil => cases h
    | cons H pt =>
      simp only at h ⊢
      split at h
      · cases h
      · exact ih _ _ _ _ h
      · cases hfl : Oper.floats z.1 with
        | true =>
          rw [hfl] at h
          simp only [cond_true] at h ⊢
          unfold drawFloat at h ⊢
          split at h
          · exact ih _ _ _ _ h
          · cases h
        | false =>
          rw [hfl] at h
          cases hqu : Oper.quiet P z.1 with
          | true =>
            rw [hqu] at h
            simp only [cond_true, cond_false] at h ⊢
            unfold drawQuiet at h ⊢
            split at h
            · exact ih _ _ _ _ h
            · cases h
          | false =>
            rw [hqu] at h
            simp only [cond_false] at h ⊢
            cases hr : runOp P c y (f.eval P) z.1 H with
            | none => rw [hr] at h; cases h
            | some ran =>
              rw [hr] at h
              rw [runOp_mono hc hy hr]
              cases ran with
              | value v H1 => exact ih _ _ _ _ h
              | defer g as H1 => cases h
              | pan v H1 => cases h

theorem regionA_mono {c c' : ACall} (hc : CLe c c') {y y' : Option (Nat × Yld)} (hy : YLe y y') {ops : Array Oper} (draw : Bool) : OLe (regionA P c y ops draw) (regionA P c' y' ops draw) := by
  intro f H r h
  unfold regionA at h ⊢
  cases draw with
  | false => exact regA_mono hc hy _ f H r h
  | true =>
    simp only at h ⊢
    split at h
    · cases h
    · exact drawA_mono hc hy _ _ _ _ _ h

theorem loopNext_mono {k k' : Frm → AH → Out} (hk : OLe k k') {a b : Out} (hab : ∀ r, a = some r → b = some r) : ∀ r, loopNext k a = some r → loopNext k' b = some r := by
  intro r h
  cases ha : a with
  | none => rw [ha] at h; cases h
  | some z =>
    rw [hab _ ha]
    rw [ha] at h
    obtain ⟨x, f, H⟩ := z
    cases x with
    | normal => exact hk _ _ _ h
    | exit id => exact h
    | ret => exact h
    | pan v => exact h

theorem loopA_mono {a b : Frm → AH → Out} (hab : OLe a b) : ∀ {n n' : Nat}, n ≤ n' → OLe (loopA a n) (loopA b n') := by
  intro n
  induction n with
  | zero => intro n' _ f H r h; cases h
  | succ n ih =>
    intro n' hn f H r h
    obtain ⟨m, rfl⟩ : ∃ m, n' = m + 1 := ⟨n' - 1, by omega⟩
    rw [loopA_succ] at h ⊢
    exact loopNext_mono (ih (by omega)) (hab f H) r h

theorem codeA_mono {c c' : ACall} (hc : CLe c c') {L L' : Nat} (hL : L ≤ L') (code : Code) : ∀ {y y' : Option (Nat × Yld)}, YLe y y' → OLe (codeA P c L code y) (codeA P c' L' code y') := by
  induction code with
  | skip => intro y y' _ f H r h; exact h
  | region id ops draw => intro y y' hy; exact regionA_mono hc hy draw
  | seq a b iha ihb => intro y y' hy f H r h; exact loopNext_mono (ihb hy) (iha hy f H) r h
  | cond x a b iha ihb =>
    intro y y' hy f H r h
    change condA (f.eval P x) (codeA P c L a y) (codeA P c L b y) f H = some r at h
    show condA (f.eval P x) (codeA P c' L' a y') (codeA P c' L' b y') f H = some r
    unfold condA at h ⊢
    split at h
    · rename_i t _
      cases t
      · exact ihb hy _ _ _ h
      · exact iha hy _ _ _ h
    · cases h
  | block id a ih =>
    intro y y' hy f H r h
    change blockA id (codeA P c L a y f H) = some r at h
    show blockA id (codeA P c' L' a y' f H) = some r
    cases ha : codeA P c L a y f H with
    | none => rw [ha] at h; cases h
    | some z => rw [ha] at h; rw [ih hy f H z ha]; exact h
  | loop a ih => intro y y' hy; exact loopA_mono (ih hy) hL
  | rangeFunc g ps a b iha ihb =>
    intro y y' _ f H r h
    change rangeA P c (f.eval P g) ps.toList (codeA P c L a none) (codeA P c L b none) f H = some r at h
    show rangeA P c' (f.eval P g) ps.toList (codeA P c' L' a none) (codeA P c' L' b none) f H = some r
    unfold rangeA at h ⊢
    split at h
    case h_2 => cases h
    split at h
    case h_2 => cases h
    rename_i h' args H1 _
    cases hr : c h' args (some (H.next, roundA ps.toList (codeA P c L a none) (codeA P c L b none) f)) H1 with
    | none => rw [hr] at h; cases h
    | some cr =>
      rw [hr] at h
      have hyl : YLe (some (H.next, roundA ps.toList (codeA P c L a none) (codeA P c L b none) f)) (some (H.next, roundA ps.toList (codeA P c' L' a none) (codeA P c' L' b none) f)) := by
        refine ⟨rfl, fun args H1 H2 hh => ?_⟩
        obtain ⟨hl, f1, H1', f2, e1, e2, e3⟩ := roundA_some hh
        have d1 := iha (YLe.refl none) _ _ _ e1
        have d2 := ihb (YLe.refl none) _ _ _ e2
        unfold roundA
        rw [beq_t hl]
        simp only [cond_true, roundBody, d1, d2, e3, List.isEmpty_nil]
      rw [hc _ _ _ _ _ _ hyl hr]
      exact h
  | exit id => intro y y' _ f H r h; exact h
  | scope a ih => exact ih
  | label l => intro y y' _ f H r h; exact h
  | goto l => intro y y' _ f H r h; cases h
  | ret => intro y y' _ f H r h; exact h
  | refuse s => intro y y' _ f H r h; cases h

theorem codeD_mono {c c' : ACall} (hc : CLe c c') (code : Code) : ∀ f H pan r, codeD P c code f H pan = some r → codeD P c' code f H pan = some r := by
  have reg : ∀ (ops : Array Oper) (l : List Oper) f H pan r, regD P c ops l f H pan = some r → regD P c' ops l f H pan = some r := by
    intro ops l
    induction l with
    | nil => intro f H pan r h; exact h
    | cons o l ih =>
      intro f H pan r h
      unfold regD at h ⊢
      split at h
      · cases h
      · exact ih _ _ _ _ h
      · split at h
        · exact ih _ _ _ _ h
        · split at h
          · exact ih _ _ _ _ h
          · exact ih _ _ _ _ h
          · exact h
          · cases h
  induction code with
  | region id ops draw =>
    intro f H pan r h
    cases draw with
    | false => exact reg ops _ _ _ _ _ h
    | true =>
      simp only [codeD] at h ⊢
      cases hr : regionA P c none ops true f H with
      | none => rw [hr] at h; cases h
      | some z => rw [hr] at h; rw [regionA_mono hc (YLe.refl none) true f H z hr]; exact h
  | seq a b iha ihb =>
    intro f H pan r h
    simp only [codeD] at h ⊢
    cases hr : codeD P c a f H pan with
    | none => rw [hr] at h; cases h
    | some z =>
      rw [hr] at h
      rw [iha _ _ _ _ hr]
      obtain ⟨x, f', H', pan'⟩ := z
      cases x with
      | normal => exact ihb _ _ _ _ h
      | exit id => exact h
      | ret => exact h
      | pan v => exact h
  | cond x a b iha ihb =>
    intro f H pan r h
    simp only [codeD] at h ⊢
    split at h
    · exact iha _ _ _ _ h
    · exact ihb _ _ _ _ h
    · cases h
  | _ => intro f H pan r h; exact h

theorem leaveA_mono {c c' : ACall} (hc : CLe c c') : ∀ l pan H r, leaveA P c l pan H = some r → leaveA P c' l pan H = some r := by
  intro l
  induction l with
  | nil => intro pan H r h; exact h
  | cons z l ih =>
    intro pan H r h
    obtain ⟨g, as⟩ := z
    unfold leaveA at h ⊢
    cases hr : leaveOne P c g as pan H with
    | none => rw [hr] at h; cases h
    | some q =>
      rw [hr] at h
      have : leaveOne P c' g as pan H = some q := by
        unfold leaveOne at hr ⊢
        split at hr
        · cases hr
        · split at hr
          · cases hr
          · rename_i cd _
            cases hd : codeD P c cd (enterA _ as) H pan with
            | none => rw [hd] at hr; cases hr
            | some z => rw [hd] at hr; rw [codeD_mono hc cd _ _ _ _ hd]; exact hr
      rw [this]
      obtain ⟨pan', H'⟩ := q
      exact ih _ _ _ h

theorem endA_mono {c c' : ACall} (hc : CLe c c') {rs : List ResultVar} {o : Out} {r : CRes} (h : endA P c rs o = some r) : endA P c' rs o = some r := by
  have key : ∀ {f : Frm} {pan : Option AV} {H : AH}, giveA P f rs (leaveA P c f.defers pan H) = some r → giveA P f rs (leaveA P c' f.defers pan H) = some r := by
    intro f pan H h
    cases hl : leaveA P c f.defers pan H with
    | none => rw [hl] at h; cases h
    | some z => rw [hl] at h; rw [leaveA_mono hc _ _ _ _ hl]; exact h
  cases o with
  | none => cases h
  | some z =>
    obtain ⟨x, f, H⟩ := z
    cases x with
    | normal => exact key h
    | ret => exact key h
    | pan v => exact key h
    | exit id => cases h

theorem callStep_mono {c c' : ACall} (hc : CLe c c') {L L' : Nat} (hL : L ≤ L') : CLe (callStep P L c) (callStep P L' c') := by
  intro g args y y' H r hy h
  unfold callStep at h ⊢
  split at h
  · cases h
  · unfold bodyA at h ⊢
    split at h
    · cases h
    · rename_i code _
      cases hr : codeA P c L code y (enterA _ args) H with
      | none => rw [hr] at h; cases h
      | some z => rw [hr] at h; rw [codeA_mono hc hL code hy _ _ _ hr]; exact endA_mono hc h

/-- Deeper calls, more rounds: the same answers. -/
theorem callA_mono {prim : ACall} (hp : ∀ g args y y' H, YLe y y' → prim g args y' H = prim g args y H) {L L' : Nat} (hL : L ≤ L') :
    ∀ {n n' : Nat}, n ≤ n' → CLe (callA P prim L n) (callA P prim L' n') := by
  intro n
  induction n with
  | zero => intro n' _ g args y y' H r _ h; cases h
  | succ n ih =>
    intro n' hn g args y y' H r hy h
    obtain ⟨m, rfl⟩ : ∃ m, n' = m + 1 := ⟨n' - 1, by omega⟩
    rw [callA_succ] at h ⊢
    rw [hp g args y y' H hy]
    cases hg : prim g args y H with
    | none => rw [hg] at h; exact callStep_mono (ih (by omega)) hL g args y y' H r hy h
    | some q => rw [hg] at h; exact h

end Go.Am
