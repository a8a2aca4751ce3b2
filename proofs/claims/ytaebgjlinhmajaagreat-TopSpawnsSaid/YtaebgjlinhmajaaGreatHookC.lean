/-
  A function that begins with Low: its tail at each number.
-/
import Derived.Test.YtaebgjlinhmajaaGreatHookB
import Derived.Test.YtaebgjlinhmajaaGreatEngG
import Derived.Test.YtaebgjlinhmajaaGreatWalkA
namespace Go.Eng
open Go.Proofs
noncomputable section
/-! ### A function whose first statement is 'many = l.Low(many, ..)' -/
noncomputable def bodyOf (fn : Func) : Code := match fn.body with | some c => c | none => .skip
noncomputable def seqL : Code → Code
  | .seq a _ => a
  | c => c
noncomputable def seqR : Code → Code
  | .seq _ b => b
  | c => c
noncomputable def isSeq : Code → Bool
  | .seq _ _ => true
  | _ => false
theorem isSeq_spec {c : Code} (h : isSeq c = true) : c = .seq (seqL c) (seqR c) := by
  cases c <;> first | rfl | cases h
/-- Low alone, its second number told -/
noncomputable def callLow (K : Int) : CallF := fun f args h => Bool.rec (motive := fun _ => CR) .fail (args2 args (fun a b => i64E a (fun a => i64E b (fun b => Bool.rec (motive := fun _ => CR) .fail (.ret (.int .i64 (a % 18446744073709551616 % K)) h) (eqF b K)) .fail) .fail) .fail) (Nat.beq f 10)
noncomputable def LowAt (K : Int) : Prop := ∀ (n : Int) (w : World), Calls Tryz.prog 10 #[.int .i64 n, .int .i64 K] w (IP (.int .i64 ((n % 18446744073709551616) % K)) w)
theorem eqI_spec {a b : Int} (h : eqI a b = true) : a = b := by
  cases a <;> cases b <;> simp only [eqI, Bool.false_eq_true] at h
  · rw [Nat.eq_of_beq_eq_true h]
  · rw [Nat.eq_of_beq_eq_true h]
theorem callLow_ok {K : Int} (hK : LowAt K) : CallOK Tryz.prog (callLow K) := by
  intro f args h θ W hr ha
  clear ha
  unfold callLow
  cases hf : Nat.beq f 10 with
  | false => trivial
  | true =>
    have hf : f = 10 := Nat.eq_of_beq_eq_true hf
    subst hf
    show CallRes _ _ _ _ _ _ (args2 args _ _)
    rw [args2_eq]
    split
    · rw [i64E_eq]
      split
      · rw [i64E_eq]
        split
        · rename_i b
          rw [eqF_eq]
          cases hb : eqI b K with
          | false => trivial
          | true =>
            have := eqI_spec hb
            subst this
            exact hook_grow hr trivial (hK _ W)
        · trivial
      · trivial
    · trivial
theorem RelR.less {θ : Env} {D : Pt → Prop} {T T' : Regs} {ρ : Operand → Value} (h : RelR θ D T ρ) (hs : ∀ b v, T'.at b = some v → T.at b = some v) : RelR θ D T' ρ :=
  ⟨fun t v hv => h.reg t v (hs _ _ hv), h.cst, h.fn⟩
/-- registers behind the two first statements: the number, the result -/
noncomputable def T2 (x : Int) : Regs := ((Q.nil : Regs).put (some (.int .i64 x)) (ptOf 0)).put (some (.bool false)) (ptOf 2)
theorem T2_less {T : Regs} {x : Int} (h0 : T.at (ptOf 0) = some (.int .i64 x)) (h2 : T.at (ptOf 2) = some (.bool false)) : ∀ b v, (T2 x).at b = some v → T.at b = some v := by
  intro b v hb
  unfold T2 at hb
  rw [Q.at_put, Q.at_put, Q.at_nil] at hb
  split at hb
  · rename_i e; subst e; rw [h2]; exact hb
  · split at hb
    · rename_i e; subst e; rw [h0]; exact hb
    · cases hb
/-- the evaluator's calls -/
theorem callA_ok_of {hook : Nat → Option HookT} (hh : HookOK hook) (loops : Nat) : CallOK Tryz.prog (callF Tryz.prog loops hook 2000) := by
  rw [callF_eq]
  exact engine Tryz.mixed hh loops 2000
noncomputable def outR : X → Regs
  | .norm t _ _ => t
  | _ => .nil
/-- the tail of a function, behind its two first statements -/
noncomputable def tailOf (fn : Func) : Code := seqR (seqR (bodyOf fn))
noncomputable def rcsOf (fn : Func) : List RC := match rcs Tryz.prog fn.results.toList with | some l => l | none => []
/-- its run, at a number -/
noncomputable def tailRun (fn : Func) (loops : Nat) (m : Int) : CR := endG Tryz.prog loops (callF Tryz.prog loops hookT 2000) (rcsOf fn) (runC Tryz.prog loops fn.ntmps (tailOf fn) (callF Tryz.prog loops hookT 2000) (T2 m) [] h00)
noncomputable def head0 (fn : Func) (K n : Int) : X := runC Tryz.prog 10 fn.ntmps (seqL (bodyOf fn)) (callLow K) (argsT [.int .i64 n]) [] h00
noncomputable def head1 (fn : Func) (K n : Int) : X := runC Tryz.prog 10 fn.ntmps (seqL (seqR (bodyOf fn))) (callLow K) (outR (head0 fn K n)) [] h00
theorem low_glue {f : Nat} {fn : Func} (hfn : Tryz.prog.funcs[f]? = some fn) (hb : fn.body = some (bodyOf fn)) (h1 : isSeq (bodyOf fn) = true) (h2 : isSeq (seqR (bodyOf fn)) = true) {K : Int} (hK0 : 0 < K) (hK : LowAt K)
    (hh0 : ∀ n, head0 fn K n = .norm (outR (head0 fn K n)) [] h00) (hh1 : ∀ n, head1 fn K n = .norm (outR (head1 fn K n)) [] h00)
    (hx0 : ∀ n, (outR (head1 fn K n)).at (ptOf 0) = some (.int .i64 (n % 18446744073709551616 % K))) (hx2 : ∀ n, (outR (head1 fn K n)).at (ptOf 2) = some (.bool false))
    (hrs : rcs Tryz.prog fn.results.toList = some (rcsOf fn)) {loops : Nat} (htail : ∀ m : Nat, (m : Int) < K → okRes (tailRun fn loops m) = true) (n : Int) (W : World) :
    Calls Tryz.prog f #[.int .i64 n] W fun e W' => Grown W W' ∧ e = .returned (.bool true) := by
  refine calls_of_wp_defers hfn hb ?_
  have hr0 : HR θ00 h00 W := HR.none _ _
  have ha0 : ActR Tryz.prog fn.ntmps θ00 h00 (argsT [.int .i64 n]) [] { tmps := #[.int .i64 n] ++ Array.replicate (fn.ntmps - (#[.int .i64 n] : Array Value).size) undef, defers := [] } := init_act (args := [.int .i64 n]) ⟨trivial, trivial⟩
  rw [isSeq_spec h1]
  refine wp_seq (runC_ok Tryz.mixed (loops := 10) (callLow_ok hK) hr0 ha0 (fun e => ?_) fun e a W1 hx => ?_)
  · have := hh0 n
    rw [show head0 fn K n = .fail from e] at this
    cases this
  · rw [show runC Tryz.prog 10 fn.ntmps (seqL (bodyOf fn)) (callLow K) (argsT [.int .i64 n]) [] h00 = _ from hh0 n] at hx
    obtain ⟨rfl, θ1, s1, ha1⟩ := hx
    show (seqR (bodyOf fn)).wp _ _ _ _
    rw [isSeq_spec h2]
    refine wp_seq (runC_ok Tryz.mixed (loops := 10) (callLow_ok hK) s1.hr ha1 (fun e => ?_) fun e a2 W2 hx => ?_)
    · have := hh1 n
      rw [show head1 fn K n = .fail from e] at this
      cases this
    · rw [show runC Tryz.prog 10 fn.ntmps (seqL (seqR (bodyOf fn))) (callLow K) (outR (head0 fn K n)) [] h00 = _ from hh1 n] at hx
      obtain ⟨rfl, θ2, s2, ha2⟩ := hx
      show (seqR (seqR (bodyOf fn))).wp _ _ _ _
      have p0 := Int.emod_nonneg (n % 18446744073709551616) (show K ≠ 0 by omega)
      have p1 := Int.emod_lt_of_pos (n % 18446744073709551616) hK0
      obtain ⟨m, hm⟩ := Int.eq_ofNat_of_zero_le p0
      have ha3 : ActR Tryz.prog fn.ntmps θ2 h00 (T2 m) [] a2 := ⟨ha2.rel.less (T2_less (by rw [hx0 n, hm]) (hx2 n)), ha2.size, ha2.defs⟩
      obtain ⟨h', hrun⟩ := okRes_spec (htail m (by omega))
      unfold tailRun at hrun
      rw [endG_eq] at hrun
      refine runC_leave Tryz.mixed (callA_ok_of hookT_ok loops) hrs s2.hr ha3 (c := tailOf fn) hrun fun e W3 => ?_
      rintro ⟨θ3, s3, _, he⟩
      have st := (s1.trans s2).trans s3
      exact ⟨⟨st.size, fun B hB => st.frame B hB fun b o hb => (by rw [show h00.get b = Option.none from Q.at_nil b] at hb; cases hb), st.os, st.out⟩, he⟩
end
end Go.Eng
