/-
  Hooks, and how a function is left.
-/
import Derived.Test.YtaebgjlinhmajaaGreatEngE
import Derived.Test.YtaebgjlinhmajaaGreatEngF
namespace Go.Eng
variable {P : Program}
/-- a value out of which no number of a block comes -/
theorem hook_grow {f : Nat} {args : List AV} {h : AHeap} {θ : Env} {W : World} {v : AV} (hr : HR θ h W) (hv : v.ok θ h.D)
    (hc : Calls P f ⟨AV.concs θ args⟩ W fun e W' => e = .returned (v.conc θ) ∧ Go.RowKit.Below W.heap.size W W') : CallRes P f args θ h W (.ret v h) :=
  Calls.mono hc fun _ _ ⟨he, hb⟩ => ⟨θ, Step.grow hr hb.size hb.block hb.os hb.output, hv, he⟩
noncomputable section
def retB (b : Bool) (h : AHeap) : CR := Bool.rec (motive := fun _ => CR) (.ret (.bool false) h) (.ret (.bool true) h) b
theorem retB_eq (b : Bool) (h : AHeap) : retB b h = .ret (.bool b) h := by cases b <;> rfl
/-- not below 0, at most hi -/
def leN (l : Int) (hi : Nat) : Bool := Int.rec (motive := fun _ => Bool) (fun x => Nat.ble x hi) (fun _ => false) l
theorem leN_eq (l : Int) (hi : Nat) : leN l hi = decide (0 ≤ l ∧ l ≤ hi) := by
  cases l with
  | ofNat x =>
    show Nat.ble x hi = _
    rw [Bool.eq_iff_iff, decide_eq_true_iff, Nat.ble_eq]
    constructor
    · intro h; exact ⟨by simp, by simpa using h⟩
    · rintro ⟨_, h⟩; simpa using h
  | negSucc x =>
    show false = _
    symm; rw [decide_eq_false_iff_not]; omega
/-- not below 0, below hi -/
def ltN (l : Int) (hi : Nat) : Bool := Int.rec (motive := fun _ => Bool) (fun x => Nat.ble (Nat.succ x) hi) (fun _ => false) l
theorem ltN_eq (l : Int) (hi : Nat) : ltN l hi = decide (0 ≤ l ∧ l ≤ (hi : Int) - 1) := by
  cases l with
  | ofNat x =>
    show Nat.ble (x + 1) hi = _
    rw [Bool.eq_iff_iff, decide_eq_true_iff, Nat.ble_eq]
    constructor
    · intro h; exact ⟨by simp, by simp only [Int.ofNat_eq_natCast]; omega⟩
    · rintro ⟨_, h⟩; simp only [Int.ofNat_eq_natCast] at h; omega
  | negSucc x =>
    show false = _
    symm; rw [decide_eq_false_iff_not]; omega
/-- from one number to another one -/
def inN (l : Int) (lo hi : Nat) : Bool := Int.rec (motive := fun _ => Bool) (fun x => Bool.rec (motive := fun _ => Bool) false (Nat.ble x hi) (Nat.ble lo x)) (fun _ => false) l
/-- an int's number, if it is one -/
def i64E {β : Type} (v : AV) (y : Int → β) (n : β) : β := intE v (fun k i => IntKind.rec (motive := fun _ => β) n n n (y i) n n n n k) n
theorem i64E_eq {β : Type} (v : AV) (y : Int → β) (n : β) : i64E v y n = (match v with | .int .i64 i => y i | _ => n) := by
  cases v <;> try rfl
  rename_i k i
  cases k <;> rfl
def args2 {β : Type} (args : List AV) (y : AV → AV → β) (n : β) : β := List.rec (motive := fun _ => β) n (fun a l _ => List.rec (motive := fun _ => β) n (fun b l _ => List.rec (motive := fun _ => β) (y a b) (fun _ _ _ => n) l) l) args
theorem args2_eq {β : Type} (args : List AV) (y : AV → AV → β) (n : β) : args2 args y n = (match args with | [a, b] => y a b | _ => n) := by
  cases args with
  | nil => rfl
  | cons a l =>
    cases l with
    | nil => rfl
    | cons b l => cases l <;> rfl
end
end Go.Eng
namespace Go.Eng
variable {P : Program}
noncomputable section
def runC (P : Program) (loops n : Nat) (c : Code) (call : CallF) (t : Regs) (ds : Defs) (h : AHeap) : X := match codePF P loops n c with
  | .mk g => g call t ds h
  | .none => .fail
end
theorem runC_ok (hm : P.follows .mixedOrders = true) {loops n : Nat} {c : Code} {call : CallF} (hcall : CallOK P call) {t : Regs} {ds : Defs} {h : AHeap} {θ : Env} {W : World} {a : Act} (hr : HR θ h W) (ha : ActR P n θ h t ds a)
    (hne : runC P loops n c call t ds h ≠ .fail) {Q : Exit → Act → World → Prop} (hQ : ∀ e a' W', XR P n θ h W (runC P loops n c call t ds h) e a' W' → Q e a' W') : c.wp P Q a W := by
  unfold runC at hne hQ
  rw [codePF_eq] at hne hQ
  cases hg : codeP P loops n c with
  | none => rw [hg] at hne; exact absurd rfl hne
  | mk g =>
    rw [hg] at hne hQ
    exact code_ok (fun id ops g h => draw_ok hm h) c g hg call hcall t ds h θ W a hr ha hne Q hQ
theorem runC_leave (hm : P.follows .mixedOrders = true) {loops : Nat} {fn : Func} {c : Code} {call : CallF} (hcall : CallOK P call) {rs : List RC} (hrs : rcs P fn.results.toList = some rs) {t : Regs} {ds : Defs} {h : AHeap} {θ : Env} {W : World} {a : Act}
    (hr : HR θ h W) (ha : ActR P fn.ntmps θ h t ds a) {v : AV} {h2 : AHeap} (hrun : endF P loops call rs (runC P loops fn.ntmps c call t ds h) = .ret v h2) {R : Ending → World → Prop}
    (hR : ∀ e W', (∃ θ', Step θ h W θ' h2 W' ∧ v.ok θ' h2.D ∧ e = .returned (v.conc θ')) → R e W') : c.wp P (bodyPostD P fn R) a W := by
  have hcode : ∀ n c g, codeP P loops n c = .mk g → CodeQ P n c g := fun n c g hg => code_ok (fun id ops g h => draw_ok hm h) c g hg
  refine runC_ok hm (loops := loops) hcall hr ha (fun e => by rw [e] at hrun; cases hrun) fun e' a' W' hxr => ?_
  cases hx : runC P loops fn.ntmps c call t ds h with
  | fail => rw [hx] at hrun; cases hrun
  | exit => rw [hx] at hrun; cases hrun
  | norm t ds h1 =>
    rw [hx] at hrun hxr
    obtain ⟨rfl, θ1, st, ha1⟩ := hxr
    exact leave_ok hcode hcall hrs st.hr ha1 hrun fun e W'' ⟨θ2, s2, o2, q2⟩ => hR _ _ ⟨θ2, st.trans s2, o2, q2⟩
  | ret t ds h1 =>
    rw [hx] at hrun hxr
    obtain ⟨rfl, θ1, st, ha1⟩ := hxr
    exact leave_ok hcode hcall hrs st.hr ha1 hrun fun e W'' ⟨θ2, s2, o2, q2⟩ => hR _ _ ⟨θ2, st.trans s2, o2, q2⟩
  | panic p t ds h1 =>
    rw [hx] at hrun hxr
    obtain ⟨θ1, rfl, st, ha1, hok⟩ := hxr
    exact leaveP_ok hcode hcall hrs st.hr ha1 hok hrun (by simp) fun e W'' ⟨θ2, s2, o2, q2⟩ => hR _ _ ⟨θ2, st.trans s2, o2, q2⟩
end Go.Eng
