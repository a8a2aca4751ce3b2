/-
  The evaluator is sound: code, functions, deferred calls, plans of regions that draw their order.
-/
import Derived.Scope
import Derived.Test.YtaebgjlinhmajaaGreatEngC
namespace Go.Eng
variable {P : Program}

/-! ### Frames -/
def DefR (P : Program) (θ : Env) (D : Pt → Prop) : Defs → List Deferred → Prop
  | [], [] => True
  | (f, args) :: ds, d :: l => (∃ x y, d = { target := .fn (.func f) y, args := x } ∧ x ++ y = ⟨AV.concs θ args⟩ ∧ AV.oks θ D args ∧ hasBody P f = true) ∧ DefR P θ D ds l
  | _, _ => False
structure ActR (P : Program) (n : Nat) (θ : Env) (h : AHeap) (T : Regs) (ds : Defs) (a : Act) : Prop where
  rel : RelR θ h.D T a.eval
  size : n ≤ a.tmps.size
  defs : DefR P θ h.D ds a.defers
theorem DefR.mono {θ θ' : Env} {D E : Pt → Prop} (ha : Agree D θ θ') (hm : ∀ p, D p → E p) : ∀ {ds : Defs} {l : List Deferred}, DefR P θ D ds l → DefR P θ' E ds l
  | [], [], _ => trivial
  | (f, args) :: ds, d :: l, ⟨⟨x, y, h1, h2, h3, h4⟩, h5⟩ => ⟨⟨x, y, h1, by rw [h2, concs_agree ha args h3], oks_agree ha hm args h3, h4⟩, DefR.mono ha hm h5⟩
  | [], _ :: _, h => h.elim
  | _ :: _, [], h => h.elim
theorem ActR.step {n : Nat} {θ θ' : Env} {h h' : AHeap} {W W' : World} {T : Regs} {ds : Defs} {a : Act} (r : ActR P n θ h T ds a) (s : Step θ h W θ' h' W') : ActR P n θ' h' T ds a :=
  ⟨r.rel.mono s.ag fun _ hp => Nat.lt_of_lt_of_le hp s.le, r.size, r.defs.mono s.ag fun _ hp => Nat.lt_of_lt_of_le hp s.le⟩
theorem dst_spec {n : Nat} {dst : Option Tmp} {d : Dst} (h : dstOf n dst = some d) : (dst = none ∧ d = .no) ∨ ∃ t : Nat, dst = some t ∧ t < n ∧ d = .at (ptOf t) := by
  unfold dstOf at h
  split at h
  · injection h with h; exact .inl ⟨rfl, h.symm⟩
  · rename_i t
    split at h
    · rename_i hlt
      injection h with h
      rw [Nat.blt_eq] at hlt
      exact .inr ⟨t, rfl, hlt, h.symm⟩
    · cases h
theorem RelR.put {θ : Env} {D : Pt → Prop} {T : Regs} {a : Act} {n : Nat} {dst : Option Tmp} {d : Dst} {v : AV} (r : RelR θ D T a.eval) (hn : n ≤ a.tmps.size) (hd : dstOf n dst = some d) (hv : v.ok θ D) :
    RelR θ D (d.put v T) (a.put dst (v.conc θ)).eval := by
  rcases dst_spec hd with ⟨rfl, rfl⟩ | ⟨t, rfl, hlt, rfl⟩
  · exact r
  · refine ⟨fun s w hw => ?_, fun v => r.cst v, fun f => r.fn f⟩
    simp only [Dst.put] at hw
    rw [Q.at_put] at hw
    split at hw
    · rename_i e
      have e := ptOf_inj e
      subst e
      injection hw with hw; subst hw
      refine ⟨hv, ?_⟩
      simp only [Act.eval, Act.put]
      rw [Array.getD_eq_getD_getElem?, Array.getElem?_setIfInBounds_self_of_lt (by omega)]; rfl
    · rename_i e
      obtain ⟨h1, h2⟩ := r.reg s w hw
      refine ⟨h1, ?_⟩
      rw [← h2]
      simp only [Act.eval, Act.put]
      rw [Array.getD_eq_getD_getElem?, Array.getElem?_setIfInBounds_ne (fun e' => e (by rw [e'])), ← Array.getD_eq_getD_getElem?]
theorem Act.put_size (a : Act) (dst : Option Tmp) (v : Value) : (a.put dst v).tmps.size = a.tmps.size := by cases dst <;> simp [Act.put]
theorem Act.put_defs (a : Act) (dst : Option Tmp) (v : Value) : (a.put dst v).defers = a.defers := by cases dst <;> rfl
theorem ActR.put {n : Nat} {θ : Env} {h : AHeap} {T : Regs} {ds : Defs} {a : Act} {dst : Option Tmp} {d : Dst} {v : AV} (r : ActR P n θ h T ds a) (hd : dstOf n dst = some d) (hv : v.ok θ h.D) :
    ActR P n θ h (d.put v T) ds (a.put dst (v.conc θ)) :=
  ⟨r.rel.put r.size hd hv, by rw [Act.put_size]; exact r.size, by rw [Act.put_defs]; exact r.defs⟩
theorem ActR.putU {n : Nat} {θ : Env} {h : AHeap} {T : Regs} {ds : Defs} {a : Act} {dst : Option Tmp} {d : Dst} (r : ActR P n θ h T ds a) (hd : dstOf n dst = some d) :
    ActR P n θ h (d.put undefA T) ds (a.put dst undef) := r.put (v := undefA) hd trivial
/-- guards -/
theorem want_spec {n : Nat} {all : List Oper} {o : Oper} {g : Option (Dst × Bool)} {θ : Env} {D : Pt → Prop} {T : Regs} {a : Act} {b : Bool} (r : RelR θ D T a.eval) (hn : n ≤ a.tmps.size) (hg : guardOf n all o.guard = some g)
    (hw : wantG g T = some b) : Region.wanted o (yielded ⟨all⟩ a.tmps) = b := by
  unfold guardOf at hg
  unfold Region.wanted
  cases hgo : o.guard with
  | none =>
    rw [hgo] at hg
    simp only [Option.some.injEq] at hg
    subst hg
    simp only [wantG, Option.some.injEq] at hw
    exact hw
  | some p =>
    obtain ⟨j, want⟩ := p
    rw [hgo] at hg
    simp only [nthF_eq] at hg
    split at hg
    · rename_i q hq
      split at hg
      · rename_i bb hd
        injection hg with hg; subst hg
        rcases dst_spec hd with ⟨_, e⟩ | ⟨t, e1, hlt, e2⟩
        · cases e
        · injection e2 with e2
          subst e2
          simp only [wantG] at hw
          have hy : yielded ⟨all⟩ a.tmps j = match a.tmps[t]? with | some (.bool b) => some b | _ => none := by
            simp only [yielded, List.getElem?_toArray, hq, Option.bind_some, e1]
            rfl
          simp only [hy]
          split at hw
          · rename_i c hc
            obtain ⟨_, h2⟩ := r.reg t _ hc
            injection hw with hw; subst hw
            have : a.tmps[t]? = some (.bool c) := by
              simp only [Act.eval, AV.conc] at h2
              rw [Array.getD_eq_getD_getElem?] at h2
              rw [Array.getElem?_eq_getElem (by omega)] at h2 ⊢
              exact congrArg some h2
            rw [this]
            cases c <;> cases want <;> rfl
          · rename_i v hv1 hv2
            obtain ⟨_, h2⟩ := r.reg t _ hv2
            injection hw with hw; subst hw
            have : a.tmps[t]? = some (v.conc θ) := by
              simp only [Act.eval] at h2
              rw [Array.getD_eq_getD_getElem?] at h2
              rw [Array.getElem?_eq_getElem (by omega)] at h2 ⊢
              exact congrArg some h2
            rw [this]
            cases v <;> first | exact absurd rfl (hv1 _) | (simp [AV.conc])
          · cases hw
      · cases hg
    · cases hg

/-! ### What code does -/
def CallRes (P : Program) (f : Nat) (args : List AV) (θ : Env) (h : AHeap) (W : World) : CR → Prop
  | .fail => True
  | .ret v h' => Calls P f ⟨AV.concs θ args⟩ W fun e W' => ∃ θ', Step θ h W θ' h' W' ∧ v.ok θ' h'.D ∧ e = .returned (v.conc θ')
  | .panic v h' => Calls P f ⟨AV.concs θ args⟩ W fun e W' => ∃ θ', Step θ h W θ' h' W' ∧ v.ok θ' h'.D ∧ e = .panicked [{ v := v.conc θ', recovered := false }]
def CallOK (P : Program) (call : CallF) : Prop := ∀ (f : Nat) (args : List AV) (h : AHeap) (θ : Env) (W : World), HR θ h W → AV.oks θ h.D args → CallRes P f args θ h W (call f args h)
def XR (P : Program) (n : Nat) (θ : Env) (h : AHeap) (W : World) : X → Exit → Act → World → Prop
  | .fail, _, _, _ => False
  | .norm t ds h', e, a', W' => e = .normal ∧ ∃ θ', Step θ h W θ' h' W' ∧ ActR P n θ' h' t ds a'
  | .exit id t ds h', e, a', W' => e = .exit id ∧ ∃ θ', Step θ h W θ' h' W' ∧ ActR P n θ' h' t ds a'
  | .ret t ds h', e, a', W' => e = .ret ∧ ∃ θ', Step θ h W θ' h' W' ∧ ActR P n θ' h' t ds a'
  | .panic v t ds h', e, a', W' => ∃ θ', e = .panic [{ v := v.conc θ', recovered := false }] ∧ Step θ h W θ' h' W' ∧ ActR P n θ' h' t ds a' ∧ v.ok θ' h'.D
theorem XR.trans {n : Nat} {θ θ' : Env} {h h' : AHeap} {W W' : World} (s : Step θ h W θ' h' W') {r : X} {e : Exit} {a : Act} {W'' : World} (x : XR P n θ' h' W' r e a W'') : XR P n θ h W r e a W'' := by
  cases r with
  | fail => exact x
  | norm => obtain ⟨x1, θ'', x2, x3⟩ := x; exact ⟨x1, θ'', s.trans x2, x3⟩
  | exit => obtain ⟨x1, θ'', x2, x3⟩ := x; exact ⟨x1, θ'', s.trans x2, x3⟩
  | ret => obtain ⟨x1, θ'', x2, x3⟩ := x; exact ⟨x1, θ'', s.trans x2, x3⟩
  | panic => obtain ⟨θ'', x1, x2, x3, x4⟩ := x; exact ⟨θ'', x1, s.trans x2, x3, x4⟩
def CodeOK (P : Program) (n : Nat) (c : Code) (g : CodeF) : Prop := ∀ (call : CallF), CallOK P call → ∀ (t : Regs) (ds : Defs) (h : AHeap) (θ : Env) (W : World) (a : Act), HR θ h W → ActR P n θ h t ds a →
  g call t ds h ≠ .fail → c.wp P (XR P n θ h W (g call t ds h)) a W

/-- one operation, with what follows -/
theorem next_ok {n : Nat} {o : Oper} {f : OpF} {d : Dst} (hf : ES P o f) (hd : dstOf n o.dst = some d) {k : CodeF} {call : CallF} (hcall : CallOK P call) {t : Regs} {ds : Defs} {h : AHeap} {θ : Env} {W : World} {a : Act}
    (hr : HR θ h W) (ha : ActR P n θ h t ds a) (hne : next d f k call t ds h ≠ .fail) {K : Act → World → Prop} {Q : Exit → Act → World → Prop}
    (hK : ∀ t' ds' h' θ' W' a', Step θ h W θ' h' W' → ActR P n θ' h' t' ds' a' → next d f k call t ds h = k call t' ds' h' → K a' W')
    (hQ : ∀ e a' W', XR P n θ h W (next d f k call t ds h) e a' W' → Q e a' W') : o.wp P a W K Q := by
  have he := hf t h θ W a.eval hr ha.rel
  unfold Oper.wp
  have key : ∀ r, f t h = r → ERes P o θ h W a.eval r → o.upon P a K Q ((execOp a.eval o).run P W) := by
    intro r hrr he
    cases he with
    | fail => exact absurd (by simp only [next, hrr]) hne
    | val run st hv =>
      rw [run]
      exact hK _ _ _ _ _ _ st ((ha.step st).put hd hv) (by simp only [next, hrr])
    | skip run st =>
      rw [run]
      exact hK _ _ _ _ _ _ st ((ha.step st).putU hd) (by simp only [next, hrr])
    | @call g args run hargs =>
      rw [run, Oper.upon_enter]
      have hc := hcall g args h θ W hr hargs
      cases hcc : call g args h with
      | fail => exact absurd (by simp only [next, hrr, hcc]) hne
      | ret v h' =>
        rw [hcc] at hc
        refine Calls.mono hc fun e W' ⟨θ', st, hv, hee⟩ => ?_
        subst hee
        exact hK _ _ _ _ _ _ st ((ha.step st).put hd hv) (by simp only [next, hrr, hcc])
      | panic v h' =>
        rw [hcc] at hc
        refine Calls.mono hc fun e W' ⟨θ', st, hv, hee⟩ => ?_
        subst hee
        refine hQ _ _ _ ?_
        have : next d f k call t ds h = .panic v t ds h' := by simp only [next, hrr, hcc]
        rw [this]
        exact ⟨θ', rfl, st, ha.step st, hv⟩
    | @defer g args x y hb run hxy hargs =>
      rw [run]
      refine hK (d.put undefA t) ((g, args) :: ds) h θ W _ (Step.refl hr) ?_ (by simp only [next, hrr])
      refine ⟨?_, ?_, ?_⟩
      · have := (ha.putU hd).rel
        refine ⟨fun s w hw => ?_, this.cst, this.fn⟩
        have := this.reg s w hw
        cases hdd : o.dst <;> simpa [Act.put, Act.eval, hdd] using this
      · rw [Act.put_size]; exact ha.size
      · rw [Act.put_defs]; exact ⟨⟨x, y, rfl, hxy, hargs, hb⟩, ha.defs⟩
    | @panic tt v run hv =>
      rw [run]
      refine hQ _ _ _ ?_
      have : next d f k call t ds h = .panic (.ifc tt v) t ds h := by simp only [next, hrr]
      rw [this]
      exact ⟨θ, rfl, Step.refl hr, ha, hv⟩
  exact key _ rfl he
theorem ops_ok {n : Nat} {all : List Oper} : ∀ (rest : List Oper) (i : Nat) (g : CodeF), all.drop i = rest → opsP P n all rest = .mk g → ∀ (call : CallF), CallOK P call → ∀ (t : Regs) (ds : Defs) (h : AHeap) (θ : Env) (W : World) (a : Act),
    HR θ h W → ActR P n θ h t ds a → g call t ds h ≠ .fail → ∀ Q : Exit → Act → World → Prop, (∀ e a' W', XR P n θ h W (g call t ds h) e a' W' → Q e a' W') → wpOps P ⟨all⟩ Q (List.range' i rest.length) a W
  | [], i, g, _, hg, call, _, t, ds, h, θ, W, a, hr, ha, _, Q, hQ => by
    simp only [opsP, Ck.mk.injEq] at hg
    subst hg
    exact hQ _ _ _ ⟨rfl, θ, Step.refl hr, ha⟩
  | o :: rest, i, g, hdrop, hg, call, hcall, t, ds, h, θ, W, a, hr, ha, hne, Q, hQ => by
    have hi : all[i]? = some o := by
      have := congrArg (·[0]?) hdrop
      simpa using this
    have hdrop' : all.drop (i + 1) = rest := by
      have := congrArg (List.drop 1) hdrop
      simpa [List.drop_drop, Nat.add_comm] using this
    simp only [List.length_cons, List.range'_succ, wpOps, List.getElem?_toArray, hi]
    simp only [opsP] at hg
    have cont : ∀ (f : OpF) (k : CodeF) (d : Dst), prep P o.op = .mk f → opsP P n all rest = .mk k → dstOf n o.dst = some d → next d f k call t ds h ≠ .fail → (∀ e a' W', XR P n θ h W (next d f k call t ds h) e a' W' → Q e a' W') →
        o.wp P a W (wpOps P ⟨all⟩ Q (List.range' (i + 1) rest.length)) Q := by
      intro f k d hf hk hd hne hQ
      refine next_ok (prep_spec hf).toES hd hcall hr ha hne (fun t' ds' h' θ' W' a' st ha' he => ?_) hQ
      exact ops_ok rest (i + 1) k hdrop' hk call hcall t' ds' h' θ' W' a' st.hr ha' (by rw [← he]; exact hne) Q fun e a'' W'' hx => hQ _ _ _ (by rw [he]; exact XR.trans st hx)
    split at hg
    · rename_i f k d hf hk hd hgd
      injection hg with hg; subst hg
      have : Region.wanted o (yielded ⟨all⟩ a.tmps) = true := want_spec ha.rel ha.size hgd rfl
      rw [if_pos this]
      exact .inl (cont f k d hf hk hd hne hQ)
    · rename_i f k d gd hf hk hd hgd
      injection hg with hg; subst hg
      unfold guarded at hne hQ
      cases hw : wantG (some gd) t with
      | none => rw [hw] at hne; exact absurd rfl hne
      | some b =>
        have hwant := want_spec ha.rel ha.size hgd hw
        rw [hw] at hne hQ
        cases b with
        | true =>
          rw [if_pos hwant]
          exact .inl (cont f k d hf hk hd hne hQ)
        | false =>
          rw [if_neg (by rw [hwant]; simp)]
          exact ops_ok rest (i + 1) k hdrop' hk call hcall _ ds h θ W _ hr (ha.putU hd) hne Q hQ
    · cases hg
theorem region_ok {n id : Nat} {ops : Array Oper} {g : CodeF} (h : opsP P n ops.toList ops.toList = .mk g) : CodeOK P n (.region id ops false) g := by
  intro call hcall t ds H θ W a hr ha hne
  refine wp_region ?_
  have := ops_ok (P := P) (all := ops.toList) ops.toList 0 g rfl h call hcall t ds H θ W a hr ha hne _ fun _ _ _ hx => hx
  rw [List.range_eq_range']
  simpa using this
end Go.Eng
namespace Go.Eng
variable {P : Program}

theorem wp_loopN {c : Code} {Q : Exit → Act → World → Prop} (J : Nat → Act → World → Prop)
    (round : ∀ n a w, J n a w → c.wp P (Exit.then (fun a' w' => ∃ m, m < n ∧ J m a' w') Q) a w) {n : Nat} {a : Act} {w : World} (h₀ : J n a w) : (Code.loop c).wp P Q a w := by
  intro b k cs
  have key : ∀ n a w, J n a w → ∃ e a' w', Q e a' w' ∧ Arrives P (lone (b.at a (.code c :: .inLoop c :: k)) cs w) b k cs e a' w' := by
    intro n
    induction n using Nat.strongRecOn with
    | _ n ih =>
      intro a w hI
      obtain ⟨e, a₁, w₁, hq, harr⟩ := round n a w hI b (.inLoop c :: k) cs
      cases e with
      | normal =>
        obtain ⟨m, hlt, hI₁⟩ := hq
        obtain ⟨e₂, a₂, w₂, hq₂, harr₂⟩ := ih m hlt a₁ w₁ hI₁
        exact ⟨e₂, a₂, w₂, hq₂, .of_steps (Steps.trans harr (.one step_inLoop)) harr₂⟩
      | exit id => exact ⟨_, a₁, w₁, hq, .pass (x := .inLoop c) rfl (fun _ _ => .inl (by simp)) harr⟩
      | goto l => exact ⟨_, a₁, w₁, hq, .pass (x := .inLoop c) rfl (fun _ _ => .inl (by simp)) harr⟩
      | ret => exact ⟨_, a₁, w₁, hq, .pass (x := .inLoop c) rfl (fun _ _ => .inl (by simp)) harr⟩
      | panic ch => exact ⟨_, a₁, w₁, hq, .pass (x := .inLoop c) rfl (fun _ _ => .inl (by simp)) harr⟩
      | outgrown => exact ⟨_, a₁, w₁, hq, .pass (x := .inLoop c) rfl (fun _ _ => .inl (by simp)) harr⟩
  obtain ⟨e, a', w', hq, harr⟩ := key n a w h₀
  exact ⟨e, a', w', hq, .of_steps (.one step_loop) harr⟩
theorem XR.noGoto {n : Nat} {θ : Env} {h : AHeap} {W : World} {r : X} {l : Nat} {a : Act} {W' : World} : ¬ XR P n θ h W r (.goto l) a W' := by
  intro x
  cases r with
  | fail => exact x
  | norm => cases x.1
  | exit => cases x.1
  | ret => cases x.1
  | panic => obtain ⟨_, x1, _⟩ := x; cases x1

/-- what is claimed of a code, for a fixed end -/
def CodeQ (P : Program) (n : Nat) (c : Code) (g : CodeF) : Prop := ∀ (call : CallF), CallOK P call → ∀ (t : Regs) (ds : Defs) (h : AHeap) (θ : Env) (W : World) (a : Act), HR θ h W → ActR P n θ h t ds a →
  g call t ds h ≠ .fail → ∀ Q : Exit → Act → World → Prop, (∀ e a' W', XR P n θ h W (g call t ds h) e a' W' → Q e a' W') → c.wp P Q a W
theorem CodeOK.q {n : Nat} {c : Code} {g : CodeF} (h : CodeOK P n c g) : CodeQ P n c g := fun call hcall t ds H θ W a hr ha hne Q hQ => wp_mono (h call hcall t ds H θ W a hr ha hne) hQ
theorem CodeQ.ok {n : Nat} {c : Code} {g : CodeF} (h : CodeQ P n c g) : CodeOK P n c g := fun call hcall t ds H θ W a hr ha hne => h call hcall t ds H θ W a hr ha hne _ fun _ _ _ x => x

theorem seq_ok {n : Nat} {x y : Code} {f g : CodeF} (hx : CodeQ P n x f) (hy : CodeQ P n y g) : CodeQ P n (.seq x y) (seqF f g) := by
  intro call hcall t ds H θ W a hr ha hne Q hQ
  refine wp_seq ?_
  unfold seqF at hne hQ
  have hne1 : f call t ds H ≠ .fail := by
    intro e; rw [e] at hne; exact hne rfl
  refine hx call hcall t ds H θ W a hr ha hne1 _ fun e a' W' hxr => ?_
  cases hf : f call t ds H with
  | fail => exact absurd hf hne1
  | norm t1 ds1 h1 =>
    rw [hf] at hxr hne hQ
    obtain ⟨rfl, θ1, st, ha1⟩ := hxr
    exact hy call hcall t1 ds1 h1 θ1 W' a' st.hr ha1 hne Q fun e a'' W'' hh => hQ _ _ _ (XR.trans st hh)
  | exit id t1 ds1 h1 =>
    rw [hf] at hxr hQ
    have hxr' := hxr
    obtain ⟨rfl, _⟩ := hxr'
    exact hQ _ _ _ hxr
  | ret t1 ds1 h1 =>
    rw [hf] at hxr hQ
    have hxr' := hxr
    obtain ⟨rfl, _⟩ := hxr'
    exact hQ _ _ _ hxr
  | panic v t1 ds1 h1 =>
    rw [hf] at hxr hQ
    have hxr' := hxr
    obtain ⟨_, rfl, _⟩ := hxr'
    exact hQ _ _ _ hxr
theorem cond_ok {n : Nat} {c : Operand} {x y : Code} {f g : CodeF} (hx : CodeQ P n x f) (hy : CodeQ P n y g) : CodeQ P n (.cond c x y) (condF (rv c) f g) := by
  intro call hcall t ds H θ W a hr ha hne Q hQ
  unfold condF at hne hQ
  cases hc : (rv c).get t with
  | none => rw [hc] at hne; exact absurd rfl hne
  | some v =>
    rw [hc] at hne hQ
    obtain ⟨h1, h2⟩ := rv_get ha.rel hc
    split at hne
    · rename_i e
      injection e with e; subst e
      exact wp_cond_true h2 (hx call hcall t ds H θ W a hr ha hne Q hQ)
    · rename_i e
      injection e with e; subst e
      exact wp_cond_false h2 (hy call hcall t ds H θ W a hr ha hne Q hQ)
    · exact absurd rfl hne
theorem block_ok {n id : Nat} {x : Code} {f : CodeF} (hx : CodeQ P n x f) : CodeQ P n (.block id x) (blockF id f) := by
  intro call hcall t ds H θ W a hr ha hne Q hQ
  refine wp_block ?_
  unfold blockF at hne hQ
  have hne1 : f call t ds H ≠ .fail := by
    intro e; rw [e] at hne; exact hne rfl
  refine hx call hcall t ds H θ W a hr ha hne1 _ fun e a' W' hxr => ?_
  cases hf : f call t ds H with
  | fail => exact absurd hf hne1
  | norm t1 ds1 h1 =>
    rw [hf] at hxr hQ
    have hxr' := hxr
    obtain ⟨rfl, _⟩ := hxr'
    exact hQ _ _ _ hxr
  | exit i t1 ds1 h1 =>
    rw [hf] at hxr hQ
    have hxr' := hxr
    obtain ⟨rfl, hrest⟩ := hxr'
    simp only [Exit.inBlock]
    by_cases hi : i = id
    · subst hi
      rw [if_pos rfl]
      refine hQ _ _ _ ?_
      simp only [Nat.beq_refl]
      exact ⟨rfl, hrest⟩
    · rw [if_neg hi]
      refine hQ _ _ _ ?_
      have : Nat.beq i id = false := by
        cases hb : Nat.beq i id
        · rfl
        · exact absurd (Nat.eq_of_beq_eq_true hb) hi
      simp only [this]
      exact hxr
  | ret t1 ds1 h1 =>
    rw [hf] at hxr hQ
    have hxr' := hxr
    obtain ⟨rfl, _⟩ := hxr'
    exact hQ _ _ _ hxr
  | panic v t1 ds1 h1 =>
    rw [hf] at hxr hQ
    have hxr' := hxr
    obtain ⟨_, rfl, _⟩ := hxr'
    exact hQ _ _ _ hxr
theorem loop_ok {n loops : Nat} {x : Code} {f : CodeF} (hx : CodeQ P n x f) : CodeQ P n (.loop x) (loopF f loops) := by
  intro call hcall t ds H θ W a hr ha hne Q hQ
  obtain ⟨r, hR⟩ : ∃ r, loopF f loops call t ds H = r := ⟨_, rfl⟩
  rw [hR] at hQ
  refine wp_loopN (fun m a1 W1 => ∃ t1 ds1 h1 θ1, Step θ H W θ1 h1 W1 ∧ ActR P n θ1 h1 t1 ds1 a1 ∧ loopF f m call t1 ds1 h1 ≠ .fail ∧ loopF f m call t1 ds1 h1 = r) (fun m a1 W1 hJ => ?_) (n := loops)
    ⟨t, ds, H, θ, Step.refl hr, ha, hne, hR⟩
  obtain ⟨t1, ds1, h1, θ1, st, ha1, hne1, he⟩ := hJ
  cases m with
  | zero => exact absurd rfl hne1
  | succ m =>
    unfold loopF at hne1 he
    have hne2 : f call t1 ds1 h1 ≠ .fail := by
      intro e; rw [e] at hne1; exact hne1 rfl
    refine hx call hcall t1 ds1 h1 θ1 W1 a1 st.hr ha1 hne2 _ fun e a' W' hxr => ?_
    cases hf : f call t1 ds1 h1 with
    | fail => exact absurd hf hne2
    | norm t2 ds2 h2 =>
      rw [hf] at hxr hne1 he
      obtain ⟨rfl, θ2, st2, ha2⟩ := hxr
      exact ⟨m, Nat.lt_succ_self m, t2, ds2, h2, θ2, st.trans st2, ha2, hne1, he⟩
    | exit i t2 ds2 h2 =>
      rw [hf] at hxr he
      have hxr' := hxr
      obtain ⟨rfl, _⟩ := hxr'
      exact hQ _ _ _ (by rw [← he]; exact XR.trans st hxr)
    | ret t2 ds2 h2 =>
      rw [hf] at hxr he
      have hxr' := hxr
      obtain ⟨rfl, _⟩ := hxr'
      exact hQ _ _ _ (by rw [← he]; exact XR.trans st hxr)
    | panic v t2 ds2 h2 =>
      rw [hf] at hxr he
      have hxr' := hxr
      obtain ⟨_, rfl, _⟩ := hxr'
      exact hQ _ _ _ (by rw [← he]; exact XR.trans st hxr)
theorem scope_ok {n : Nat} {x : Code} {f : CodeF} (hx : CodeQ P n x f) : CodeQ P n (.scope x) f := by
  intro call hcall t ds H θ W a hr ha hne Q hQ
  refine wp_scope_straight (hx call hcall t ds H θ W a hr ha hne _ fun e a' W' hxr => ?_)
  cases e with
  | goto l => exact absurd hxr XR.noGoto
  | _ => exact hQ _ _ _ hxr
theorem code_ok {loops n : Nat} (hdraw : ∀ (id : Nat) (ops : Array Oper) (g : CodeF), drawP P n ops.toList = .mk g → CodeQ P n (.region id ops true) g) :
    ∀ (c : Code) (g : CodeF), codeP P loops n c = .mk g → CodeQ P n c g := by
  intro c
  induction c with
  | skip =>
    intro g h
    simp only [codeP, Ck.mk.injEq] at h
    subst h
    intro call hcall t ds H θ W a hr ha hne Q hQ
    exact wp_skip (hQ _ _ _ ⟨rfl, θ, Step.refl hr, ha⟩)
  | label l =>
    intro g h
    simp only [codeP, Ck.mk.injEq] at h
    subst h
    intro call hcall t ds H θ W a hr ha hne Q hQ
    exact wp_label (hQ _ _ _ ⟨rfl, θ, Step.refl hr, ha⟩)
  | exit id =>
    intro g h
    simp only [codeP, Ck.mk.injEq] at h
    subst h
    intro call hcall t ds H θ W a hr ha hne Q hQ
    exact wp_exit (hQ _ _ _ ⟨rfl, θ, Step.refl hr, ha⟩)
  | ret =>
    intro g h
    simp only [codeP, Ck.mk.injEq] at h
    subst h
    intro call hcall t ds H θ W a hr ha hne Q hQ
    exact wp_ret (hQ _ _ _ ⟨rfl, θ, Step.refl hr, ha⟩)
  | region id ops draw =>
    intro g h
    simp only [codeP] at h
    cases draw with
    | true => exact hdraw id ops g h
    | false => exact (region_ok h).q
  | seq x y ihx ihy =>
    intro g h
    simp only [codeP] at h
    split at h
    · rename_i f k hf hk
      injection h with h; subst h
      exact seq_ok (ihx f hf) (ihy k hk)
    · cases h
  | cond c x y ihx ihy =>
    intro g h
    simp only [codeP] at h
    split at h
    · rename_i f k hf hk
      split at h
      · cases h
      · rename_i hrv
        injection h with h; subst h
        rw [← hrv]
        exact cond_ok (ihx f hf) (ihy k hk)
      · rename_i hrv
        injection h with h; subst h
        rw [← hrv]
        exact cond_ok (ihx f hf) (ihy k hk)
    · cases h
  | block id x ih =>
    intro g h
    simp only [codeP] at h
    split at h
    · rename_i f hf
      injection h with h; subst h
      exact block_ok (ih f hf)
    · cases h
  | loop x ih =>
    intro g h
    simp only [codeP] at h
    split at h
    · rename_i f hf
      injection h with h; subst h
      exact loop_ok (ih f hf)
    · cases h
  | scope x ih =>
    intro g h
    simp only [codeP] at h
    exact scope_ok (ih g h)
  | _ => intro g h; simp only [codeP] at h; cases h
end Go.Eng
namespace Go.Eng
variable {P : Program}

/-! ### Results -/
theorem load1_run {θ : Env} {h : AHeap} {W : World} (hr : HR θ h W) {av v : AV} (hv : valOf (load1 av h) = some v) : v.ok θ h.D ∧ ∃ a, av.conc θ = .pointer (some a) ∧ (load a).run P W = .ok (v.conc θ) W := by
  unfold load1 at hv
  split at hv
  · rename_i b off
    split at hv
    · rename_i m cs op hb
      split at hv
      · rename_i u hu
        simp only [valOf, Option.some.injEq] at hv
        subst hv
        obtain ⟨h1, h2, h3⟩ := cell_at hr hb hu
        exact ⟨h1, _, rfl, by simp only [run_load, h3]⟩
      · cases hv
    · cases hv
  · cases hv
theorem loadN_run {θ : Env} {h : AHeap} {W : World} (hr : HR θ h W) {n : Nat} {av v : AV} (hv : valOf (loadN n av h) = some v) : v.ok θ h.D ∧ ∃ a l, av.conc θ = .pointer (some a) ∧ v.conc θ = .agg ⟨l⟩ ∧ (loadCells a n).run P W = .ok ⟨l⟩ W := by
  unfold loadN at hv
  split at hv
  · rename_i b off
    split at hv
    · rename_i m cs op hb
      split at hv
      · rename_i l hl
        simp only [valOf, Option.some.injEq] at hv
        subst hv
        obtain ⟨h1, h2, h3, h4⟩ := loadCells_at (P := P) hr hb hl
        exact ⟨⟨h1, h2⟩, _, AV.concs θ l, rfl, rfl, h4⟩
      · cases hv
    · cases hv
  · cases hv
def resOne (tmps : Array Value) : ResultVar → Sem Value
  | .tmp t => pure (tmps.getD t undef)
  | .cell a t => do loadVar t (← asAddr (tmps.getD a undef))
theorem rc_run {θ : Env} {h : AHeap} {W : World} {T : Regs} {a : Act} (hr : HR θ h W) (ha : RelR θ h.D T a.eval) {r : ResultVar} {c : RC} (hc : rcOf P r = some c) {v : AV} (hv : c.get T h = some v) :
    v.ok θ h.D ∧ (resOne a.tmps r).run P W = .ok (v.conc θ) W := by
  cases r with
  | tmp t =>
    simp only [rcOf, Option.some.injEq] at hc
    subst hc
    obtain ⟨h1, h2⟩ := ha.reg t v hv
    refine ⟨h1, ?_⟩
    simp only [resOne, Sem.run_pure]
    exact congrArg (Result.ok · W) h2
  | cell x t =>
    simp only [rcOf] at hc
    split at hc
    · rename_i n hg hs
      injection hc with hc; subst hc
      simp only [RC.get] at hv
      split at hv
      · rename_i av hav
        obtain ⟨_, h2⟩ := ha.reg x av hav
        obtain ⟨h3, ad, l, h4, h5, h6⟩ := loadN_run (P := P) hr hv
        have h2 : a.tmps.getD x undef = av.conc θ := h2
        refine ⟨h3, ?_⟩
        simp only [resOne, h2, h4, h5, asAddr, loadVar, Sem.run_bind, Sem.run_pure, Result.andThen_ok, aggT_spec hg, (sizeT_spec hs).1, if_true, h6]
      · cases hv
    · rename_i hg hs
      injection hc with hc; subst hc
      simp only [RC.get] at hv
      split at hv
      · rename_i av hav
        obtain ⟨_, h2⟩ := ha.reg x av hav
        obtain ⟨h3, ad, h4, h6⟩ := load1_run (P := P) hr hv
        have h2 : a.tmps.getD x undef = av.conc θ := h2
        refine ⟨h3, ?_⟩
        simp only [resOne, h2, h4, asAddr, loadVar, Sem.run_bind, Sem.run_pure, Result.andThen_ok, aggT_spec hg, Bool.false_eq_true, if_false, h6]
      · cases hv
    · cases hc
theorem rcs_run {θ : Env} {h : AHeap} {W : World} {T : Regs} {a : Act} (hr : HR θ h W) (ha : RelR θ h.D T a.eval) : ∀ {rs : List ResultVar} {cs : List RC} {vs : List AV}, rcs P rs = some cs → RC.gets T h cs = some vs →
    AV.oks θ h.D vs ∧ cs.length = rs.length ∧ (rs.mapM (resOne a.tmps)).run P W = .ok (AV.concs θ vs) W
  | [], cs, vs, hc, hv => by
    simp only [rcs, Option.some.injEq] at hc
    subst hc
    simp only [RC.gets, Option.some.injEq] at hv
    subst hv
    exact ⟨trivial, rfl, by simp [AV.concs]⟩
  | r :: rs, cs, vs, hc, hv => by
    simp only [rcs] at hc
    split at hc
    · rename_i c cs' h1 h2
      injection hc with hc; subst hc
      simp only [RC.gets] at hv
      split at hv
      · cases hv
      · rename_i v hv1
        split at hv
        · cases hv
        · rename_i vs' hv2
          injection hv with hv; subst hv
          obtain ⟨a1, a2⟩ := rc_run hr ha h1 hv1
          obtain ⟨b1, b2, b3⟩ := rcs_run hr ha h2 hv2
          refine ⟨⟨a1, b1⟩, by simp [b2], ?_⟩
          simp only [List.mapM_cons, Sem.run_bind, a2, Result.andThen_ok, b3, Sem.run_pure, AV.concs]
    · cases hc
theorem results_eq (fn : Func) (tmps : Array Value) : results fn tmps = (do let vs ← fn.results.mapM (resOne tmps); pure (if h : vs.size = 1 then vs[0] else .tuple vs)) := by
  unfold results
  congr 1
theorem ret_run {θ : Env} {h h' : AHeap} {W : World} {T : Regs} {a : Act} {fn : Func} {rs : List RC} {v : AV} (hr : HR θ h W) (ha : RelR θ h.D T a.eval) (hrs : rcs P fn.results.toList = some rs) (hd : retD rs T h = .ret v h') :
    h' = h ∧ v.ok θ h.D ∧ (results fn a.tmps).run P W = .ok (v.conc θ) W := by
  have fin : ∀ {vs : List AV}, RC.gets T h rs = some vs → AV.oks θ h.D vs ∧ rs.length = vs.length ∧ (results fn a.tmps).run P W = .ok (if h : (⟨AV.concs θ vs⟩ : Array Value).size = 1 then (⟨AV.concs θ vs⟩ : Array Value)[0] else .tuple ⟨AV.concs θ vs⟩) W := by
    intro vs hvs
    obtain ⟨b1, b2, b3⟩ := rcs_run hr ha hrs hvs
    have hl : ∀ {rs : List RC} {vs : List AV}, RC.gets T h rs = some vs → rs.length = vs.length := by
      intro rs
      induction rs with
      | nil => intro vs hh; simp only [RC.gets, Option.some.injEq] at hh; subst hh; rfl
      | cons r rs ih =>
        intro vs hh
        simp only [RC.gets] at hh
        split at hh
        · cases hh
        · split at hh
          · cases hh
          · rename_i vs' hv'
            injection hh with hh; subst hh
            simp [ih hv']
    refine ⟨b1, hl hvs, ?_⟩
    rw [results_eq]
    simp only [Array.mapM_eq_mapM_toList, map_eq_pure_bind, Sem.run_bind, b3, Sem.run_pure, Result.andThen_ok]
  unfold retD at hd
  split at hd
  · rename_i r
    split at hd
    · rename_i u hu
      injection hd with hd1 hd2
      subst hd1 hd2
      obtain ⟨f1, f2, f3⟩ := fin (vs := [u]) (by simp only [RC.gets, hu])
      exact ⟨rfl, f1.1, by rw [f3]; simp [AV.concs]⟩
    · cases hd
  · rename_i hne
    split at hd
    · rename_i vs hvs
      injection hd with hd1 hd2
      subst hd1 hd2
      obtain ⟨f1, f2, f3⟩ := fin hvs
      refine ⟨rfl, f1, ?_⟩
      rw [f3, dif_neg]
      · rfl
      · simp only [List.size_toArray, concs_length]
        intro e
        cases rs with
        | nil => simp at f2; omega
        | cons r rs => cases rs with
          | nil => exact hne r rfl
          | cons r2 rs => simp at f2; omega
    · cases hd
end Go.Eng
namespace Go.Eng
variable {P : Program}

theorem init_act {n : Nat} {θ : Env} {h : AHeap} {args : List AV} (ha : AV.oks θ h.D args) :
    ActR P n θ h (argsT args) [] { tmps := ⟨AV.concs θ args⟩ ++ Array.replicate (n - (⟨AV.concs θ args⟩ : Array Value).size) undef, defers := [] } := by
  refine ⟨⟨fun t v hv => ?_, fun _ => rfl, fun _ => rfl⟩, ?_, trivial⟩
  · have hv : args[t]? = some v := by
      have := trOf_get args t
      rw [← this]; exact hv
    have hlt := (List.getElem?_eq_some_iff.1 hv).1
    refine ⟨oks_iff.1 ha v (List.mem_of_getElem? hv), ?_⟩
    simp only [Act.eval]
    rw [Array.getD_eq_getD_getElem?, Array.getElem?_append_left (by simp [concs_length]; exact hlt)]
    simp [concs_eq, hv]
  · simp [concs_length]; omega
theorem recover_run {o : Oper} {c : Call} {ρ : Operand → Value} {W : World} (ho : o.op = .call c) (hc : c.callee = .builtin .recover) : (execOp ρ o).run P W = .ok .recover W := by
  simp only [execOp, ho, resolve, hc, Sem.run_bind, Sem.run_pure, Result.andThen_ok, invoke, builtin]
theorem peel_seq {x y c' : Code} {dst : Option Tmp} (h : peel (.seq x y) = some (dst, c')) :
    (∃ id o c, x = .region id ⟨[o]⟩ false ∧ o.dst = dst ∧ o.op = .call c ∧ c.callee = .builtin .recover ∧ o.guard = none ∧ c' = y) ∨ ∃ z, peel x = some (dst, z) ∧ c' = .seq z y := by
  unfold peel at h
  split at h
  · rename_i e
    injection e with e1 e2
    subst e1 e2
    simp only [Option.some.injEq, Prod.mk.injEq] at h
    obtain ⟨h1, h2⟩ := h
    exact .inl ⟨_, _, _, rfl, h1, rfl, rfl, rfl, h2.symm⟩
  · rename_i e
    injection e with e1 e2
    subst e1 e2
    split at h
    · rename_i d c hp
      simp only [Option.some.injEq, Prod.mk.injEq] at h
      obtain ⟨h1, h2⟩ := h
      subst h1 h2
      exact .inr ⟨c, hp, rfl⟩
    · cases h
  · cases h
theorem peel_ok {n loops : Nat} (hcode : ∀ c g, codeP P loops n c = .mk g → CodeQ P n c g) {call : CallF} (hcall : CallOK P call) {dst : Option Tmp} {d : Dst} (hd : dstOf n dst = some d)
    {p : AV} {cs cs' : List Frame} {a : Act} {θ : Env} {h : AHeap} {W : World} (hr : HR θ h W) {t : Regs} {ds : Defs} (ha : ActR P n θ h t ds a) (hp : p.ok θ h.D)
    (hrec : recoverD cs = some (p.conc θ, cs') ∨ (recoverD cs = none ∧ p = .nili ∧ cs' = cs)) :
    ∀ (c c' : Code), peel c = some (dst, c') → ∀ g, codeP P loops n c' = .mk g → g call (d.put p t) ds h ≠ .fail → ∀ Q : Exit → Act → List Frame → World → Prop,
      (∀ e a' W', XR P n θ h W (g call (d.put p t) ds h) e a' W' → Q e a' cs' W') → c.wpS P Q a cs W := by
  intro c
  induction c with
  | seq x y ihx _ =>
    intro c' hpe g hg hne Q hQ
    rcases peel_seq hpe with ⟨id, o, c, rfl, hod, ho, hc, hgd, rfl⟩ | ⟨z, hz, rfl⟩
    · refine wpS_seq (wpS_region ?_)
      have hrange : List.range (#[o] : Array Oper).size = [0] := rfl
      show wpOpsS P #[o] _ (List.range (#[o] : Array Oper).size) a cs W
      rw [hrange]
      have hw : Region.wanted o (yielded #[o] a.tmps) = true := by simp [Region.wanted, hgd]
      simp only [wpOpsS, List.getElem?_toArray, List.getElem?_cons_zero, hw, if_true, recover_run ho hc, hod]
      have hq := hcode _ _ hg
      have fin : (c'.wpS P Q (a.put dst (p.conc θ)) cs' W) := by
        refine wpS_of_wp ?_
        exact hq call hcall _ _ _ _ _ _ hr (ha.put hd hp) hne _ hQ
      rcases hrec with hrec | ⟨hrec, rfl, rfl⟩
      · simp only [hrec]; exact fin
      · simp only [hrec]; exact fin
    · simp only [codeP] at hg
      split at hg
      · rename_i f k hf hk
        injection hg with hg; subst hg
        refine wpS_seq ?_
        unfold seqF at hne hQ
        have hne1 : f call (d.put p t) ds h ≠ .fail := by
          intro e; rw [e] at hne; exact hne rfl
        refine ihx z hz f hf hne1 _ fun e a' W' hxr => ?_
        cases hff : f call (d.put p t) ds h with
        | fail => exact absurd hff hne1
        | norm t1 ds1 h1 =>
          rw [hff] at hxr hne hQ
          obtain ⟨rfl, θ1, st, ha1⟩ := hxr
          refine wpS_of_wp ?_
          exact hcode _ _ hk call hcall t1 ds1 h1 θ1 W' a' st.hr ha1 hne _ fun e a'' W'' hh => hQ _ _ _ (XR.trans st hh)
        | exit id t1 ds1 h1 =>
          rw [hff] at hxr hQ
          have hxr' := hxr
          obtain ⟨rfl, _⟩ := hxr'
          exact hQ _ _ _ hxr
        | ret t1 ds1 h1 =>
          rw [hff] at hxr hQ
          have hxr' := hxr
          obtain ⟨rfl, _⟩ := hxr'
          exact hQ _ _ _ hxr
        | panic v t1 ds1 h1 =>
          rw [hff] at hxr hQ
          have hxr' := hxr
          obtain ⟨_, rfl, _⟩ := hxr'
          exact hQ _ _ _ hxr
      · cases hg
  | _ => intro c' hpe; simp [peel] at hpe

theorem defR_nil {θ : Env} {D : Pt → Prop} {l : List Deferred} (h : DefR P θ D [] l) : l = [] := by
  cases l with
  | nil => rfl
  | cons => exact h.elim
section
variable {loops : Nat}
theorem deferA_ok (hcode : ∀ n c g, codeP P loops n c = .mk g → CodeQ P n c g) {call : CallF} (hcall : CallOK P call) {fn : Func} {rs : List RC} (hrs : rcs P fn.results.toList = some rs) {θ : Env} {h : AHeap} {W : World} (hr : HR θ h W) {t : Regs} {a : Act} (ha : RelR θ h.D t a.eval)
    {g : Nat} {ga : List AV} {dd : Deferred} (hdd : ∃ x y, dd = { target := .fn (.func g) y, args := x } ∧ x ++ y = ⟨AV.concs θ ga⟩ ∧ AV.oks θ h.D ga ∧ hasBody P g = true) {p : AV} (hp : p.ok θ h.D) {u : FrameMode}
    (hu : (u = .returning ∧ p = .nili) ∨ u = .panicking [{ v := p.conc θ, recovered := false }]) {v : AV} {h2 : AHeap} (hd : deferA P loops call rs t g ga p h = .ret v h2) {R : Ending → World → Prop}
    (hR : ∀ e W', (∃ θ', Step θ h W θ' h2 W' ∧ v.ok θ' h2.D ∧ e = .returned (v.conc θ')) → R e W') : Leaves P fn a.tmps R [dd] u W := by
  obtain ⟨x, y, rfl, hxy, hga, hb⟩ := hdd
  refine ⟨by rcases hu with ⟨rfl, _⟩ | rfl <;> simp, .func g, y, g, x ++ y, rfl, ?_, ?_⟩
  · simp only [invoke, hasBody_call hb]
  unfold deferA at hd
  split at hd
  · cases hd
  · rename_i d f hdp
    unfold defP at hdp
    split at hdp
    · cases hdp
    · rename_i gn hgn
      split at hdp
      · cases hdp
      · rename_i body hbody
        split at hdp
        · rename_i hres
          split at hdp
          · cases hdp
          · rename_i dst c' hpe
            split at hdp
            · rename_i k d' hk hd'
              injection hdp with e1 e2
              subst e1 e2
              refine callsD_of_wpS hgn hbody fun c₀ cs hmode => ?_
              rw [hxy]
              have hinit : ActR P gn.ntmps θ h (argsT ga) [] { tmps := ⟨AV.concs θ ga⟩ ++ Array.replicate (gn.ntmps - (⟨AV.concs θ ga⟩ : Array Value).size) undef, defers := [] } := init_act hga
              have hne : k call (d'.put p (argsT ga)) [] h ≠ .fail := by
                intro e; rw [e] at hd; cases hd
              -- what recover does
              have hrec : ∃ cs' u', cs' = { c₀ with mode := u' } :: cs ∧ settle u' = .returning ∧ (recoverD (c₀ :: cs) = some (p.conc θ, cs') ∨ (recoverD (c₀ :: cs) = none ∧ p = .nili ∧ cs' = c₀ :: cs)) := by
                rcases hu with ⟨rfl, rfl⟩ | rfl
                · refine ⟨c₀ :: cs, .returning, by rw [← hmode], rfl, .inr ⟨?_, rfl, rfl⟩⟩
                  simp only [recoverD, hmode]
                · refine ⟨{ c₀ with mode := .panicking [{ v := p.conc θ, recovered := true }] } :: cs, .panicking [{ v := p.conc θ, recovered := true }], rfl, rfl, .inl ?_⟩
                  simp only [recoverD, hmode]
              obtain ⟨cs', u', hcs', hset, hrec⟩ := hrec
              refine peel_ok (fun c g => hcode gn.ntmps c g) hcall hd' hr hinit hp hrec body c' hpe k hk hne _ fun e a' W' hxr => ?_
              have done : ∀ {t1 : Regs} {h1 : AHeap} {θ1 : Env}, retD rs t h1 = .ret v h2 → Step θ h W θ1 h1 W' → ActR P gn.ntmps θ1 h1 t1 [] a' →
                  a'.defers = [] ∧ ∃ u', cs' = { c₀ with mode := u' } :: cs ∧ ∃ vv, (results gn a'.tmps).run P W' = .ok vv W' ∧ Leaves P fn a.tmps R [] (settle u') W' := by
                intro t1 h1 θ1 hret st ha1
                refine ⟨defR_nil ha1.defs, u', hcs', .tuple #[], ?_, ?_⟩
                · have hre : gn.results = #[] := by apply Array.ext'; exact hres
                  rw [results_eq, hre]
                  simp
                · rw [hset]
                  obtain ⟨r1, r2, r3⟩ := ret_run (P := P) (fn := fn) st.hr (ha.mono st.ag fun _ hp => Nat.lt_of_lt_of_le hp st.le) hrs hret
                  subst r1
                  exact ⟨_, r3, hR _ _ ⟨θ1, st, r2, rfl⟩⟩
              cases hf : k call (d'.put p (argsT ga)) [] h with
              | fail => exact absurd hf hne
              | norm t1 ds1 h1 =>
                rw [hf] at hxr hd
                obtain ⟨rfl, θ1, st, ha1⟩ := hxr
                cases ds1 with
                | nil => exact done hd st ha1
                | cons => cases hd
              | exit => rw [hf] at hd; cases hd
              | ret t1 ds1 h1 =>
                rw [hf] at hxr hd
                obtain ⟨rfl, θ1, st, ha1⟩ := hxr
                cases ds1 with
                | nil => exact done hd st ha1
                | cons => cases hd
              | panic => rw [hf] at hd; cases hd
            · cases hdp
        · cases hdp
end
end Go.Eng
namespace Go.Eng
variable {P : Program}
theorem retD_kind (rs : List RC) (t : Regs) (h : AHeap) : retD rs t h = .fail ∨ ∃ v h', retD rs t h = .ret v h' := by
  unfold retD
  split
  · split
    · exact .inr ⟨_, _, rfl⟩
    · exact .inl rfl
  · split
    · exact .inr ⟨_, _, rfl⟩
    · exact .inl rfl
theorem deferA_kind (loops : Nat) (call : CallF) (rs : List RC) (t : Regs) (g : Nat) (ga : List AV) (p : AV) (h : AHeap) : deferA P loops call rs t g ga p h = .fail ∨ ∃ v h', deferA P loops call rs t g ga p h = .ret v h' := by
  unfold deferA
  split
  · exact .inl rfl
  · split
    · exact retD_kind _ _ _
    · exact retD_kind _ _ _
    · exact .inl rfl
theorem leave_kind (loops : Nat) (call : CallF) (rs : List RC) (t : Regs) (ds : Defs) (h : AHeap) : leave P loops call rs t ds h = .fail ∨ ∃ v h', leave P loops call rs t ds h = .ret v h' := by
  unfold leave
  split
  · exact retD_kind _ _ _
  · exact deferA_kind _ _ _ _ _ _ _ _
  · exact .inl rfl
section
variable {loops : Nat}
theorem leave_ok (hcode : ∀ n c g, codeP P loops n c = .mk g → CodeQ P n c g) {call : CallF} (hcall : CallOK P call) {fn : Func} {rs : List RC} (hrs : rcs P fn.results.toList = some rs) {n : Nat} {θ : Env} {h : AHeap} {W : World} (hr : HR θ h W) {t : Regs} {ds : Defs} {a : Act}
    (ha : ActR P n θ h t ds a) {v : AV} {h2 : AHeap} (hd : leave P loops call rs t ds h = .ret v h2) {R : Ending → World → Prop}
    (hR : ∀ e W', (∃ θ', Step θ h W θ' h2 W' ∧ v.ok θ' h2.D ∧ e = .returned (v.conc θ')) → R e W') : Leaves P fn a.tmps R a.defers .returning W := by
  unfold leave at hd
  split at hd
  · rw [defR_nil ha.defs]
    obtain ⟨r1, r2, r3⟩ := ret_run (P := P) (fn := fn) hr ha.rel hrs hd
    subst r1
    exact ⟨_, r3, hR _ _ ⟨θ, Step.refl hr, r2, rfl⟩⟩
  · rename_i g ga
    have hdefs := ha.defs
    cases hl : a.defers with
    | nil => rw [hl] at hdefs; exact hdefs.elim
    | cons dd l =>
      rw [hl] at hdefs
      obtain ⟨h1, h2⟩ := hdefs
      rw [defR_nil h2]
      exact deferA_ok hcode hcall hrs hr ha.rel h1 (p := .nili) trivial (.inl ⟨rfl, rfl⟩) hd hR
  · cases hd
theorem leaveP_ok (hcode : ∀ n c g, codeP P loops n c = .mk g → CodeQ P n c g) {call : CallF} (hcall : CallOK P call) {fn : Func} {rs : List RC} (hrs : rcs P fn.results.toList = some rs) {n : Nat} {θ : Env} {h : AHeap} {W : World} (hr : HR θ h W) {t : Regs} {ds : Defs} {a : Act}
    (ha : ActR P n θ h t ds a) {p : AV} (hp : p.ok θ h.D) {R : Ending → World → Prop} {r : CR} (hd : leaveP P loops call rs p t ds h = r) (hne : r ≠ .fail)
    (hR : ∀ e W', (match r with | .fail => False | .ret v h2 => ∃ θ', Step θ h W θ' h2 W' ∧ v.ok θ' h2.D ∧ e = .returned (v.conc θ') | .panic v h2 => ∃ θ', Step θ h W θ' h2 W' ∧ v.ok θ' h2.D ∧ e = .panicked [{ v := v.conc θ', recovered := false }]) → R e W') :
    Leaves P fn a.tmps R a.defers (.panicking [{ v := p.conc θ, recovered := false }]) W := by
  unfold leaveP at hd
  split at hd
  · rw [defR_nil ha.defs]
    subst hd
    exact hR _ _ ⟨θ, Step.refl hr, hp, rfl⟩
  · rename_i g ga
    have hdefs := ha.defs
    cases hl : a.defers with
    | nil => rw [hl] at hdefs; exact hdefs.elim
    | cons dd l =>
      rw [hl] at hdefs
      obtain ⟨h1, h2⟩ := hdefs
      rw [defR_nil h2]
      rcases deferA_kind (P := P) loops call rs t g ga p h with e | ⟨v, h', e⟩
      · rw [e] at hd; exact absurd hd.symm hne
      · rw [e] at hd
        subst hd
        exact deferA_ok hcode hcall hrs hr ha.rel h1 hp (.inr rfl) e hR
  · exact absurd hd.symm hne
theorem callA_ok (hcode : ∀ n c g, codeP P loops n c = .mk g → CodeQ P n c g) {hook : Nat → Option (List AV → AHeap → CR)} (hhook : ∀ f k, hook f = some k → ∀ (args : List AV) (h : AHeap) (θ : Env) (W : World), HR θ h W → AV.oks θ h.D args → CallRes P f args θ h W (k args h)) :
    ∀ depth, CallOK P (callA P hook loops depth) := by
  intro depth
  induction depth with
  | zero => intro f args h θ W _ _; trivial
  | succ m ih =>
    intro f args h θ W hr ha
    unfold callA
    split
    · rename_i k hk
      exact hhook f k hk args h θ W hr ha
    · split
      · trivial
      · rename_i g rs hfun
        unfold funP at hfun
        split at hfun
        · cases hfun
        · rename_i fn hfn
          split at hfun
          · cases hfun
          · rename_i c hbody
            split at hfun
            · rename_i g' rs' hg hrs
              injection hfun with e1 e2
              subst e1 e2
              have hq := hcode fn.ntmps c g' hg
              have hinit : ActR P fn.ntmps θ h (argsT args) [] { tmps := ⟨AV.concs θ args⟩ ++ Array.replicate (fn.ntmps - (⟨AV.concs θ args⟩ : Array Value).size) undef, defers := [] } := init_act ha
              cases hx : g' (callA P hook loops m) (argsT args) [] h with
              | fail => trivial
              | exit => trivial
              | norm t ds h1 =>
                simp only [endF]
                rcases leave_kind (P := P) loops (callA P hook loops m) rs' t ds h1 with e | ⟨v, h2, e⟩
                · rw [e]; trivial
                · rw [e]
                  refine calls_of_wp_defers hfn hbody (hq _ ih _ _ _ _ _ _ hr hinit (by rw [hx]; simp) _ fun e' a' W' hxr => ?_)
                  rw [hx] at hxr
                  obtain ⟨rfl, θ1, st, ha1⟩ := hxr
                  exact leave_ok hcode ih hrs st.hr ha1 e fun e W'' ⟨θ2, s2, o2, q2⟩ => ⟨θ2, st.trans s2, o2, q2⟩
              | ret t ds h1 =>
                simp only [endF]
                rcases leave_kind (P := P) loops (callA P hook loops m) rs' t ds h1 with e | ⟨v, h2, e⟩
                · rw [e]; trivial
                · rw [e]
                  refine calls_of_wp_defers hfn hbody (hq _ ih _ _ _ _ _ _ hr hinit (by rw [hx]; simp) _ fun e' a' W' hxr => ?_)
                  rw [hx] at hxr
                  obtain ⟨rfl, θ1, st, ha1⟩ := hxr
                  exact leave_ok hcode ih hrs st.hr ha1 e fun e W'' ⟨θ2, s2, o2, q2⟩ => ⟨θ2, st.trans s2, o2, q2⟩
              | panic p t ds h1 =>
                simp only [endF]
                cases hr2 : leaveP P loops (callA P hook loops m) rs' p t ds h1 with
                | fail => trivial
                | ret v h2 =>
                  refine calls_of_wp_defers hfn hbody (hq _ ih _ _ _ _ _ _ hr hinit (by rw [hx]; simp) _ fun e' a' W' hxr => ?_)
                  rw [hx] at hxr
                  obtain ⟨θ1, rfl, st, ha1, hok⟩ := hxr
                  exact leaveP_ok hcode ih hrs st.hr ha1 hok hr2 (by simp) fun e W'' ⟨θ2, s2, o2, q2⟩ => ⟨θ2, st.trans s2, o2, q2⟩
                | panic v h2 =>
                  refine calls_of_wp_defers hfn hbody (hq _ ih _ _ _ _ _ _ hr hinit (by rw [hx]; simp) _ fun e' a' W' hxr => ?_)
                  rw [hx] at hxr
                  obtain ⟨θ1, rfl, st, ha1, hok⟩ := hxr
                  exact leaveP_ok hcode ih hrs st.hr ha1 hok hr2 (by simp) fun e W'' ⟨θ2, s2, o2, q2⟩ => ⟨θ2, st.trans s2, o2, q2⟩
            · cases hfun
end
end Go.Eng
namespace Go.Eng
variable {P : Program}

/-! ### What an operation looks at -/
def Same (xs : List Operand) (T T' : Regs) : Prop := ∀ t, .tmp t ∈ xs → T.at (ptOf t) = T'.at (ptOf t)
theorem rv_same {x : Operand} {T T' : Regs} (h : Same [x] T T') : (rv x).get T = (rv x).get T' := by
  cases x with
  | tmp t => exact h t (by simp)
  | const v => simp only [rv]; split <;> rfl
  | func f => rfl
  | global g => rfl
theorem Same.sub {xs ys : List Operand} {T T' : Regs} (h : Same ys T T') (hs : ∀ x ∈ xs, x ∈ ys) : Same xs T T' := fun t ht => h t (hs _ ht)
theorem rvs_same : ∀ {xs : List Operand} {T T' : Regs}, Same xs T T' → RV.gets T (rvs xs) = RV.gets T' (rvs xs)
  | [], _, _, _ => rfl
  | x :: xs, T, T', h => by
    simp only [rvs, RV.gets]
    rw [rv_same (h.sub (by simp)), rvs_same (xs := xs) (h.sub fun y hy => by simp [hy])]
theorem un_eq {x : Operand} {f : AV → AHeap → R} {g : OpF} (h : un x f = .mk g) (T : Regs) (H : AHeap) : g T H = match (rv x).get T with | some v => f v H | none => .fail := by
  unfold un at h
  cases hx : rv x with
  | bad => rw [hx] at h; cases h
  | cst v => rw [hx] at h; injection h with h; subst h; rfl
  | reg b => rw [hx] at h; injection h with h; subst h; rfl
theorem un_same {x : Operand} {f : AV → AHeap → R} {g : OpF} (h : un x f = .mk g) {T T' : Regs} (hs : Same [x] T T') (H : AHeap) : g T H = g T' H := by
  rw [un_eq h, un_eq h, rv_same hs]
theorem bi_same {x y : Operand} {f : AV → AV → AHeap → R} {g : OpF} (h : bi x y f = .mk g) {T T' : Regs} (hs : Same [x, y] T T') (H : AHeap) : g T H = g T' H := by
  rw [bi_eq h, bi_eq h, rv_same (hs.sub (by simp)), rv_same (x := y) (hs.sub (by simp))]
theorem many_same {xs : List Operand} {f : List AV → AHeap → R} {g : OpF} (h : many (rvs xs) f = .mk g) {T T' : Regs} (hs : Same xs T T') (H : AHeap) : g T H = g T' H := by
  unfold many at h
  injection h with h; subst h
  simp only [rvs_same hs]
theorem bv_same {β : Type} {x : Option Operand} {T T' : Regs} (hs : Same x.toList T T') (d y : Nat) (bad : β) (k : Nat → β) : (bv x).get T d y bad k = (bv x).get T' d y bad k := by
  cases x with
  | none => rfl
  | some x =>
    have := rv_same (x := x) (T := T) (T' := T') (hs.sub (by simp))
    simp only [bv]
    cases hx : rv x with
    | bad => rfl
    | reg b => simp only [BV.get]; rw [hx] at this; simp only [RV.get] at this; rw [this]
    | cst v => cases v <;> first | rfl | (rename_i n; cases n <;> rfl)
theorem slice_same {t : TypeId} {x : Operand} {lo hi mx : Option Operand} {g : OpF} (h : sliceP P t x lo hi mx = .mk g) {T T' : Regs} (hs : Same (x :: (lo.toList ++ hi.toList ++ mx.toList)) T T') (H : AHeap) : g T H = g T' H := by
  have hlo : ∀ {β : Type} (d y : Nat) (bad : β) (k : Nat → β), (bv lo).get T d y bad k = (bv lo).get T' d y bad k := bv_same (hs.sub fun y hy => by simp [hy])
  have hhi : ∀ {β : Type} (d y : Nat) (bad : β) (k : Nat → β), (bv hi).get T d y bad k = (bv hi).get T' d y bad k := bv_same (hs.sub fun y hy => by simp [hy])
  have hmx : ∀ {β : Type} (d y : Nat) (bad : β) (k : Nat → β), (bv mx).get T d y bad k = (bv mx).get T' d y bad k := bv_same (hs.sub fun y hy => by simp [hy])
  have hex : ∀ sz b off len c H, sliceEx (bv lo) (bv hi) (bv mx) sz b off len c T H = sliceEx (bv lo) (bv hi) (bv mx) sz b off len c T' H := fun sz b off len c H => by
    unfold sliceEx; simp only [hmx, hhi, hlo]
  have hop : ∀ sz b off len k H, sliceOp (bv lo) (bv hi) (bv mx) sz b off len k T H = sliceOp (bv lo) (bv hi) (bv mx) sz b off len k T' H := fun sz b off len k H => by
    unfold sliceOp
    split
    · simp only [hhi, hlo]
    · simp only [hmx, hhi, hlo]
  have hx := rv_same (x := x) (T := T) (T' := T') (hs.sub (by simp))
  have un'_eq : ∀ {f : AV → Regs → AHeap → R} {g : OpF}, un' x f = .mk g → (∀ v H, f v T H = f v T' H) → g T H = g T' H := by
    intro f g h hf
    unfold un' at h
    cases hxx : rv x with
    | bad => rw [hxx] at h; cases h
    | cst v => rw [hxx] at h; injection h with h; subst h; exact hf v H
    | reg b =>
      rw [hxx] at h; injection h with h; subst h
      rw [hxx] at hx
      simp only [RV.get] at hx
      simp only [hx]
      cases T'.at b with
      | none => rfl
      | some v => exact hf v H
  unfold sliceP at h
  split at h
  · cases h
  · split at h
    · split at h
      · refine un'_eq h fun v H => ?_
        unfold substrD
        split
        · simp only [hhi, hlo]
        · rfl
      · cases h
    · split at h
      · refine un'_eq h fun v H => ?_
        unfold sliceD
        split
        · simp only [hmx, hhi, hlo]
        · split
          · exact hex _ _ _ _ _ _
          · exact hop _ _ _ _ _ _
        · rfl
      · cases h
    · split at h
      · refine un'_eq h fun v H => ?_
        unfold subarrD
        split
        · exact hex _ _ _ _ _ _
        · rfl
      · cases h
    · cases h
theorem call_same {df : Bool} {f : Operand} {args : List Operand} {g : OpF} (h : callP P df f args = .mk g) {T T' : Regs} (hs : Same (f :: args) T T') (H : AHeap) : g T H = g T' H := by
  unfold callP at h
  split at h
  · split at h
    · cases df with
      | true => exact many_same h (hs.sub fun y hy => by simp [hy]) H
      | false => exact many_same h (hs.sub fun y hy => by simp [hy]) H
    · cases h
  · exact many_same (xs := f :: args) h hs H
theorem bin_same {op : BinOp} {t : TypeId} {x y : Operand} {g : OpF} (h : binP P op t x y = .mk g) {T T' : Regs} (hs : Same [x, y] T T') (H : AHeap) : g T H = g T' H := by
  cases op <;> exact bi_same h hs H
theorem prep_same {o : Op} {g : OpF} (h : prep P o = .mk g) {T T' : Regs} (hs : Same o.operands.toList T T') (H : AHeap) : g T H = g T' H := by
  cases o <;> try (simp only [prep] at h <;> cases h <;> done)
  case move x => exact un_same h (hs.sub (by simp [Op.operands])) H
  case assign x => exact un_same h (hs.sub (by simp [Op.operands])) H
  case pick c a b =>
    simp only [prep, pickP, Cl.mk.injEq] at h
    subst h
    simp only [rv_same (x := c) (hs.sub (by simp [Op.operands])), rv_same (x := a) (hs.sub (by simp [Op.operands])), rv_same (x := b) (hs.sub (by simp [Op.operands]))]
  case alloc e =>
    simp only [prep, allocP] at h
    split at h
    · injection h with h; subst h; rfl
    · cases h
  case box e x => exact un_same h (hs.sub (by simp [Op.operands])) H
  case build t ps =>
    simp only [prep, buildP] at h
    split at h
    · cases h
    · split at h
      · split at h
        · exact many_same h (hs.sub (by simp [Op.operands])) H
        · cases h
      · split at h
        · exact many_same h (hs.sub (by simp [Op.operands])) H
        · cases h
      · cases h
  case buildSlice t n ps =>
    simp only [prep, buildSliceP] at h
    split at h
    · split at h
      · split at h
        · exact many_same h (hs.sub (by simp [Op.operands])) H
        · cases h
      · cases h
    · cases h
  case load t a =>
    simp only [prep, loadP] at h
    split at h
    · exact un_same h (hs.sub (by simp [Op.operands])) H
    · exact un_same h (hs.sub (by simp [Op.operands])) H
    · cases h
  case store t a x =>
    simp only [prep, storeP] at h
    split at h
    · exact bi_same h (hs.sub (by simp [Op.operands])) H
    · cases h
  case nilCheck x => exact un_same h (hs.sub (by simp [Op.operands])) H
  case binOp op t x y ty => exact bin_same h (hs.sub (by simp [Op.operands])) H
  case unOp op t x =>
    cases op
    case not => exact un_same h (hs.sub (by simp [Op.operands])) H
    case neg => exact un_same h (hs.sub (by simp [Op.operands])) H
    all_goals simp only [prep] at h; cases h
  case convert s d x =>
    simp only [prep, convP] at h
    split at h
    · split at h
      · exact un_same h (hs.sub (by simp [Op.operands])) H
      · cases h
    · split at h
      · split at h
        · exact un_same h (hs.sub (by simp [Op.operands])) H
        · cases h
      · cases h
    · cases h
  case makeInterface t x =>
    simp only [prep, ifaceP] at h
    split at h
    · cases h
    · exact un_same h (hs.sub (by simp [Op.operands])) H
    · cases h
  case makeFunc f a b =>
    simp only [prep, fnP] at h
    split at h
    · injection h with h; subst h
      simp only [rvs_same (xs := a.toList) (hs.sub fun y hy => by simp [Op.operands] at hy ⊢; exact .inl hy), rvs_same (xs := b.toList) (hs.sub fun y hy => by simp [Op.operands] at hy ⊢; exact .inr hy)]
    · cases h
  case makeMap t r =>
    cases r with
    | none => simp only [prep, Cl.mk.injEq] at h; subst h; rfl
    | some r => simp only [prep] at h; cases h
  case makeSlice t l c =>
    simp only [prep, makeSliceP] at h
    split at h
    · split at h
      · split at h
        · exact bi_same h (hs.sub (by simp [Op.operands])) H
        · cases h
      · cases h
    · cases h
  case slice t x lo hi mx => exact slice_same h (hs.sub fun y hy => by simp [Op.operands] at hy ⊢; exact hy) H
  case fieldAddr s x f =>
    simp only [prep, fieldAddrP] at h
    split at h
    · split at h
      · split at h
        · exact un_same h (hs.sub (by simp [Op.operands])) H
        · cases h
      · cases h
    · cases h
  case field t x f =>
    simp only [prep, fieldP] at h
    split at h
    · split at h
      · split at h
        · exact un_same h (hs.sub (by simp [Op.operands])) H
        · exact un_same h (hs.sub (by simp [Op.operands])) H
        · cases h
      · cases h
    · cases h
  case indexAddr t x i =>
    simp only [prep, indexAddrP] at h
    split at h
    · split at h
      · exact bi_same h (hs.sub (by simp [Op.operands])) H
      · cases h
    · split at h
      · exact bi_same h (hs.sub (by simp [Op.operands])) H
      · cases h
    · cases h
  case index t x i =>
    simp only [prep, indexP] at h
    split at h
    · split at h
      · exact bi_same h (hs.sub (by simp [Op.operands])) H
      · cases h
    · exact bi_same h (hs.sub (by simp [Op.operands])) H
    · cases h
  case lookup t m k ok =>
    simp only [prep, lookupP] at h
    split at h
    · split at h
      · exact bi_same h (hs.sub (by simp [Op.operands])) H
      · cases h
    · cases h
  case mapUpdate t m k v =>
    simp only [prep, mapUpdateP] at h
    split at h
    · split at h
      · exact many_same h (hs.sub (by simp [Op.operands])) H
      · cases h
    · cases h
  case typeAssert x s d ok =>
    simp only [prep, assertP] at h
    split at h
    · cases h
    · exact un_same h (hs.sub (by simp [Op.operands])) H
    · cases h
  case extract x i => exact un_same h (hs.sub (by simp [Op.operands])) H
  case panic x => exact un_same h (hs.sub (by simp [Op.operands])) H
  case call c =>
    obtain ⟨callee, args, argTypes⟩ := c
    cases callee with
    | value f =>
      simp only [prep] at h
      exact call_same h (hs.sub (by simp [Op.operands, Call.operands])) H
    | invoke r m => simp only [prep] at h; cases h
    | builtin b =>
      replace hs : Same args.toList T T' := hs.sub (by simp [Op.operands, Call.operands])
      simp only [prep, builtinP] at h
      split at h
      · split at h
        · rename_i ha
          rw [ha] at hs
          simp only [lenP] at h
          split at h
          all_goals first | exact un_same h hs H | cases h
        · cases h
      · split at h
        · rename_i ha
          rw [ha] at hs
          simp only [capP] at h
          split at h
          all_goals first | exact un_same h hs H | cases h
        · cases h
      · exact many_same h hs H
      · exact many_same h hs H
      · split at h
        · rename_i ha
          rw [ha] at hs
          simp only [appP] at h
          split at h
          · split at h
            · split at h
              · split at h
                · split at h
                  all_goals first | exact bi_same h hs H | cases h
                · cases h
              · cases h
            · cases h
          · cases h
        · cases h
      · split at h
        · rename_i ha
          rw [ha] at hs
          split at h
          · split at h
            · exact bi_same h hs H
            · cases h
          · cases h
        · cases h
      · cases h
  case defer c =>
    obtain ⟨callee, args, argTypes⟩ := c
    cases callee with
    | value f =>
      simp only [prep] at h
      exact call_same h (hs.sub (by simp [Op.operands, Call.operands])) H
    | invoke r m => simp only [prep] at h; cases h
    | builtin b => simp only [prep] at h; cases h
end Go.Eng
namespace Go.Eng
variable {P : Program}

/-! ### The plan of a region that draws -/
theorem bit_or_pow (d i k : Nat) : (d ||| 2 ^ i).testBit k = (d.testBit k || decide (k = i)) := by
  rw [Nat.testBit_or]
  congr 1
  by_cases h : k = i
  · subst h; simp [Nat.testBit_two_pow_self]
  · rw [Nat.testBit_two_pow_of_ne (fun e => h e.symm)]; simp [h]
def mem (m : Nat) (i : Nat) : Prop := m.testBit i = true
/-- the masks as a relation -/
def Anc (anc : List Nat) (i k : Nat) : Prop := ∃ m, anc[i]? = some m ∧ m.testBit k = true
theorem maskOf_spec {anc : List Nat} : ∀ {es : List Edge} {r k : Nat}, maskOf anc es = some r → r.testBit k = true → ∃ e ∈ es, Region.binds .any e = true ∧ (k = e.on ∨ Anc anc e.on k)
  | [], r, k, h, hk => by
    simp only [maskOf, Option.some.injEq] at h
    subst h; simp at hk
  | e :: es, r, k, h, hk => by
    simp only [maskOf] at h
    split at h
    · obtain ⟨e', h1, h2⟩ := maskOf_spec h hk
      exact ⟨e', by simp [h1], h2⟩
    · rename_i hb
      split at h
      · rename_i m r' hm hr
        injection h with h; subst h
        rw [nthF_eq] at hm
        rw [Nat.testBit_or, Nat.testBit_or, Bool.or_eq_true, Bool.or_eq_true] at hk
        rcases hk with (hk | hk) | hk
        · refine ⟨e, by simp, hb, .inl ?_⟩
          by_cases hne : k = e.on
          · exact hne
          · rw [Nat.testBit_two_pow_of_ne (fun e => hne e.symm)] at hk; cases hk
        · exact ⟨e, by simp, hb, .inr ⟨m, hm, hk⟩⟩
        · obtain ⟨e', h1, h2⟩ := maskOf_spec hr hk
          exact ⟨e', by simp [h1], h2⟩
      · cases h
def dones : List Nat → Nat → Nat
  | [], d => d
  | i :: is, d => dones is (d ||| 2 ^ i)
theorem dones_bit : ∀ (is : List Nat) (d k : Nat), (dones is d).testBit k = (d.testBit k || decide (k ∈ is))
  | [], d, k => by simp [dones]
  | i :: is, d, k => by
    rw [dones, dones_bit is, bit_or_pow]
    by_cases h1 : k = i <;> by_cases h2 : k ∈ is <;> simp [h1, h2]
def effsOf (ops : List Oper) : List Nat → List Nat → List Nat
  | [], l => l
  | i :: is, l => effsOf ops is (bif (match ops[i]? with | some o => isEff o | none => false) then i :: l else l)
structure ItF (P : Program) (n : Nat) (ops : List Oper) (anc : List Nat) (i : Nat) (done : Nat) (effs rest : List Nat) (o : Oper) (it : It) : Prop where
  op : ops[i]? = some o
  kd : kindOf o.op = some it.kd
  f : prep P o.op = .mk it.f
  dst : dstOf n o.dst = some it.dst
  g : guardOf n ops o.guard = some it.g
  new : done.testBit i = false
  dep : ∀ e ∈ o.after.toList, Region.binds .any e = true → done.testBit e.on = true
  tmp : tmpsOK ops anc i o = true
  eff : isEff o = true → ∀ k, done.testBit k = true → Anc anc i k
  msk : ∀ k, Anc anc i k → ∃ e ∈ o.after.toList, Region.binds .any e = true ∧ (k = e.on ∨ Anc anc e.on k)
  lo : it.lo = 0 ∨ ∃ e, effs[effs.length - it.lo]? = some e ∧ it.lo ≤ effs.length ∧ Anc anc i e
  last : it.last = true → ∀ k ∈ rest, Anc anc k i
theorem loOf_spec {anc : List Nat} {i m : Nat} (hm : anc[i]? = some m) : ∀ (effs : List Nat), loOf m effs = 0 ∨ ∃ e, effs[effs.length - loOf m effs]? = some e ∧ loOf m effs ≤ effs.length ∧ Anc anc i e
  | [] => .inl rfl
  | e :: es => by
    simp only [loOf]
    cases hb : m.testBit e with
    | true => exact .inr ⟨e, by simp [lenF_eq], by simp [lenF_eq], m, hm, hb⟩
    | false =>
      rcases loOf_spec hm es with h | ⟨e', h1, h2, h3⟩
      · exact .inl h
      · right
        refine ⟨e', ?_, by simp only [List.length_cons]; omega, h3⟩
        simp only [List.length_cons]
        rw [show es.length + 1 - loOf m es = (es.length - loOf m es) + 1 by omega]
        exact h1
theorem planGo_spec {n : Nat} {ops : List Oper} {anc : List Nat} : ∀ (is : List Nat) (done : Nat) (effs : List Nat) (l : List It), planGo P n ops anc is done effs = some l →
    l.length = is.length ∧ dones is done = 2 ^ ops.length - 1 ∧ ∀ q i, is[q]? = some i → ∃ o it, l[q]? = some it ∧ ItF P n ops anc i (dones (is.take q) done) (effsOf ops (is.take q) effs) (is.drop (q + 1)) o it
  | [], done, effs, l, h => by
    simp only [planGo] at h
    split at h
    · rename_i hd
      injection h with h; subst h
      exact ⟨rfl, by rw [← lenF_eq]; exact Nat.eq_of_beq_eq_true hd, fun q i hq => by simp at hq⟩
    · cases h
  | i :: is, done, effs, l, h => by
    simp only [planGo] at h
    split at h
    · rename_i o m ho hm
      split at h
      · rename_i kd f d g r hkd hf hd hg hr
        split at h
        · rename_i hc
          injection h with h; subst h
          simp only [Bool.and_eq_true] at hc
          obtain ⟨⟨⟨⟨c1, c2⟩, c3⟩, c4⟩, c5⟩ := hc
          obtain ⟨i1, i2, i3⟩ := planGo_spec is _ _ r hr
          rw [nthF_eq] at ho hm
          refine ⟨by simp [i1], i2, fun q k hq => ?_⟩
          cases q with
          | zero =>
            simp only [List.getElem?_cons_zero, Option.some.injEq] at hq
            subst hq
            refine ⟨o, _, rfl, ho, hkd, hf, hd, hg, by simpa [dones] using c1, fun e he hb => ?_, c3, fun he k hk => ?_, fun k hk => ?_, loOf_spec hm effs, fun hl k hk => ?_⟩
            · rw [List.all_eq_true] at c2
              have := c2 e he
              rw [hb] at this
              simpa [dones] using this
            · rw [he] at c4
              simp only [Bool.not_true, Bool.false_or] at c4
              have c4 := Nat.eq_of_beq_eq_true c4
              refine ⟨m, hm, ?_⟩
              rw [← c4, Nat.testBit_or]
              simp only [List.take_zero, dones] at hk
              rw [hk]; rfl
            · obtain ⟨m', h1, h2⟩ := hk
              rw [hm] at h1
              injection h1 with h1; subst h1
              cases hmo : maskOf anc o.after.toList with
              | none => rw [hmo] at c5; cases c5
              | some r' =>
                rw [hmo] at c5
                have := Nat.eq_of_beq_eq_true c5
                subst this
                exact maskOf_spec hmo h2
            · simp only [List.drop_succ_cons, List.drop_zero] at hk
              have hl := List.all_eq_true.1 hl k hk
              split at hl
              · rename_i mk hmk
                rw [nthF_eq] at hmk
                exact ⟨mk, hmk, hl⟩
              · cases hl
          | succ q =>
            simp only [List.getElem?_cons_succ] at hq
            obtain ⟨o', it, j1, j2⟩ := i3 q k hq
            refine ⟨o', it, by simpa using j1, ?_⟩
            have e1 : effsOf ops ((i :: is).take (q + 1)) effs = effsOf ops (is.take q) (bif isEff o then i :: effs else effs) := by
              simp only [List.take_succ_cons, effsOf, ho]
            rw [e1]
            simpa [dones] using j2
        · cases h
      · cases h
    · cases h

/-! ### The canonical run -/
structure St where
  t : Regs
  j : Nat
  h : AHeap
  hs : List AHeap
  g : AHeap
/-- what an operation wrote, and the state behind it -/
inductive Sp (call : CallF) (i : It) (s : St) : AV → St → Prop
  | no (hw : wantG i.g s.t = some false) (hk : i.kd ≠ .eff) : Sp call i s undefA { s with t := i.dst.put undefA s.t }
  | noEff (hw : wantG i.g s.t = some false) (hk : i.kd = .eff) : Sp call i s undefA ⟨i.dst.put undefA s.t, s.j + 1, s.g, s.h :: s.hs, s.g⟩
  | read {v : AV} {h' : AHeap} (hw : wantG i.g s.t = some true) (hk : i.kd = .read) (hf : i.f s.t s.h = .val v h') (hs : sameAll i.f s.t v (takeL (s.j - i.lo) s.hs) = true) : Sp call i s v { s with t := i.dst.put v s.t }
  | alloc {v : AV} {g : AHeap} (hw : wantG i.g s.t = some true) (hk : i.kd = .alloc) (hf : i.f s.t s.g = .val v g) : Sp call i s v { s with t := i.dst.put v s.t, g := g }
  | val {v : AV} {g : AHeap} (hw : wantG i.g s.t = some true) (hk : i.kd = .eff) (hf : i.f s.t s.g = .val v g) (hg : grew s.g g = true) : Sp call i s v ⟨i.dst.put v s.t, s.j + 1, g, s.h :: s.hs, g⟩
  | skip {g : AHeap} (hw : wantG i.g s.t = some true) (hk : i.kd = .eff) (hf : i.f s.t s.g = .skip g) (hg : grew s.g g = true) : Sp call i s undefA ⟨i.dst.put undefA s.t, s.j + 1, g, s.h :: s.hs, g⟩
  | call {f : Nat} {args : List AV} {g1 g : AHeap} {v : AV} (hw : wantG i.g s.t = some true) (hk : i.kd = .eff) (hf : i.f s.t s.g = .call f args g1) (hc : call f args g1 = .ret v g) (hg : grew s.g g = true) : Sp call i s v ⟨i.dst.put v s.t, s.j + 1, g, s.h :: s.hs, g⟩
inductive Pn (call : CallF) (i : It) (s : St) : AV → AHeap → Prop
  | call {f : Nat} {args : List AV} {g1 g : AHeap} {v : AV} (hw : wantG i.g s.t = some true) (hk : i.kd = .eff) (hl : i.last = true) (hf : i.f s.t s.g = .call f args g1) (hc : call f args g1 = .panic v g) : Pn call i s v g
  | panic {g : AHeap} {v : AV} (hw : wantG i.g s.t = some true) (hk : i.kd = .eff) (hl : i.last = true) (hf : i.f s.t s.g = .panic v g) : Pn call i s v g
theorem drawGo_step {call : CallF} {ds : Defs} {i : It} {is : List It} {s : St} (hne : drawGo call ds (i :: is) s.t s.j s.h s.hs s.g ≠ .fail) :
    (∃ v s', Sp call i s v s' ∧ drawGo call ds (i :: is) s.t s.j s.h s.hs s.g = drawGo call ds is s'.t s'.j s'.h s'.hs s'.g) ∨ (∃ v g, Pn call i s v g ∧ drawGo call ds (i :: is) s.t s.j s.h s.hs s.g = .panic v s.t ds g) := by
  simp only [drawGo] at hne ⊢
  split at hne
  · exact absurd rfl hne
  · rename_i hw
    cases hk : i.kd with
    | eff => exact .inl ⟨_, _, .noEff hw hk, rfl⟩
    | read => exact .inl ⟨_, _, .no hw (by rw [hk]; simp), rfl⟩
    | alloc => exact .inl ⟨_, _, .no hw (by rw [hk]; simp), rfl⟩
  · rename_i hw
    split at hne
    · rename_i hk
      split at hne
      · rename_i v h' hf
        split at hne
        · rename_i hs
          exact .inl ⟨_, _, .read hw hk hf hs, by simp only []⟩
        · exact absurd rfl hne
      · exact absurd rfl hne
    · rename_i hk
      split at hne
      · rename_i v g' hf
        exact .inl ⟨_, _, .alloc hw hk hf, by simp only⟩
      · exact absurd rfl hne
    · rename_i hk
      split at hne
      · rename_i v g' hf
        split at hne
        · rename_i hg; exact .inl ⟨_, _, .val hw hk hf hg, by simp only []⟩
        · exact absurd rfl hne
      · rename_i g' hf
        split at hne
        · rename_i hg; exact .inl ⟨_, _, .skip hw hk hf hg, by simp only []⟩
        · exact absurd rfl hne
      · rename_i f args g1 hf
        split at hne
        · rename_i v g' hc
          split at hne
          · rename_i hg; exact .inl ⟨_, _, .call hw hk hf hc hg, by simp only []⟩
          · exact absurd rfl hne
        · rename_i v g' hc
          split at hne
          · rename_i hl
            exact .inr ⟨_, _, .call hw hk hl hf hc, by simp only []⟩
          · exact absurd rfl hne
        · exact absurd rfl hne
      · rename_i v g' hf
        split at hne
        · rename_i hl
          exact .inr ⟨_, _, .panic hw hk hl hf, by simp only []⟩
        · exact absurd rfl hne
      · exact absurd rfl hne
/-- the states of the canonical run -/
theorem drawGo_run {call : CallF} {ds : Defs} : ∀ (l : List It) (s : St), drawGo call ds l s.t s.j s.h s.hs s.g ≠ .fail → ∃ (L : Nat) (σ : Nat → St) (val : Nat → AV), L ≤ l.length ∧ σ 0 = s ∧
    (∀ q, q < L → ∃ i, l[q]? = some i ∧ Sp call i (σ q) (val q) (σ (q + 1))) ∧
    ((L = l.length ∧ drawGo call ds l s.t s.j s.h s.hs s.g = .norm (σ L).t ds (σ L).g) ∨ ∃ i v g, l[L]? = some i ∧ Pn call i (σ L) v g ∧ drawGo call ds l s.t s.j s.h s.hs s.g = .panic v (σ L).t ds g)
  | [], s, _ => ⟨0, fun _ => s, fun _ => undefA, Nat.le_refl _, rfl, fun q hq => absurd hq (Nat.not_lt_zero _), .inl ⟨rfl, rfl⟩⟩
  | i :: is, s, hne => by
    rcases drawGo_step hne with ⟨v, s', h1, h2⟩ | ⟨v, g, h1, h2⟩
    · rw [h2] at hne
      obtain ⟨L, σ, val, k1, k2, k3, k4⟩ := drawGo_run is s' hne
      refine ⟨L + 1, fun q => match q with | 0 => s | q + 1 => σ q, fun q => match q with | 0 => v | q + 1 => val q, by simp; omega, rfl, fun q hq => ?_, ?_⟩
      · cases q with
        | zero => exact ⟨i, rfl, by show Sp call i s v (σ 0); rw [k2]; exact h1⟩
        | succ q => exact k3 q (by omega)
      · rw [h2]
        rcases k4 with ⟨e1, e2⟩ | ⟨i', v', g', e1, e2, e3⟩
        · exact .inl ⟨by simp [e1], e2⟩
        · exact .inr ⟨i', v', g', e1, e2, e3⟩
    · exact ⟨0, fun _ => s, fun _ => undefA, Nat.zero_le _, rfl, fun q hq => absurd hq (Nat.not_lt_zero _), .inr ⟨i, v, g, rfl, h1, h2⟩⟩
end Go.Eng
namespace Go.Eng
variable {P : Program}

theorem mem_take_pos {α : Type} {l : List α} {q : Nat} {x : α} : x ∈ l.take q ↔ ∃ r, r < q ∧ l[r]? = some x := by
  rw [List.mem_iff_getElem?]
  constructor
  · rintro ⟨r, hr⟩
    rw [List.getElem?_take] at hr
    split at hr
    · exact ⟨r, by assumption, hr⟩
    · cases hr
  · rintro ⟨r, h1, h2⟩
    exact ⟨r, by rw [List.getElem?_take_of_lt h1]; exact h2⟩
/-- the plan, in clean words -/
structure PF (P : Program) (n : Nat) (ops : List Oper) (anc is : List Nat) (l : List It) : Prop where
  len : l.length = is.length
  all : ∀ k, k < ops.length → ∃ q : Nat, is[q]? = some k
  itm : ∀ (q i : Nat), is[q]? = some i → ∃ o it, l[q]? = some it ∧ ItF P n ops anc i (dones (is.take q) 0) (effsOf ops (is.take q) []) (is.drop (q + 1)) o it
theorem plan_pf {n : Nat} {ops : List Oper} {anc is : List Nat} {l : List It} (h : planGo P n ops anc is 0 [] = some l) : PF P n ops anc is l := by
  obtain ⟨h1, h2, h3⟩ := planGo_spec is 0 [] l h
  refine ⟨h1, fun k hk => ?_, h3⟩
  have := dones_bit is 0 k
  rw [h2, Nat.testBit_two_pow_sub_one] at this
  simp [hk] at this
  exact List.mem_iff_getElem?.1 this
section
variable {n : Nat} {ops : List Oper} {anc is : List Nat} {l : List It}
theorem bit_take (q k : Nat) : (dones (is.take q) 0).testBit k = true ↔ ∃ r, r < q ∧ is[r]? = some k := by
  rw [dones_bit, ← mem_take_pos]; simp
theorem pos_inj (pf : PF P n ops anc is l) {q r i : Nat} (hq : is[q]? = some i) (hr : is[r]? = some i) : q = r := by
  have key : ∀ q r, q < r → is[q]? = some i → is[r]? = some i → False := fun q r hlt h1 h2 => by
    obtain ⟨o, it, _, f⟩ := pf.itm r i h2
    have := (bit_take (is := is) r i).2 ⟨q, hlt, h1⟩
    rw [f.new] at this; cases this
  rcases Nat.lt_trichotomy q r with h | h | h
  · exact (key q r h hq hr).elim
  · exact h
  · exact (key r q h hr hq).elim
theorem idx_lt (pf : PF P n ops anc is l) {q i : Nat} (hq : is[q]? = some i) : i < ops.length := by
  obtain ⟨o, it, _, f⟩ := pf.itm q i hq
  exact (List.getElem?_eq_some_iff.1 f.op).1
/-- what is closed under the edges is closed under the masks -/
theorem anc_cl (pf : PF P n ops anc is l) {X : Nat → Prop} (hX : ∀ i o, ops[i]? = some o → X i → ∀ e ∈ o.after.toList, Region.binds .any e = true → X e.on) :
    ∀ (q i : Nat), is[q]? = some i → (∀ o, ops[i]? = some o → ∀ e ∈ o.after.toList, Region.binds .any e = true → X e.on) → ∀ k, Anc anc i k → X k ∧ ∃ r : Nat, r < q ∧ is[r]? = some k := by
  intro q
  induction q using Nat.strongRecOn with
  | _ q ih =>
    intro i hi hdeps k hk
    obtain ⟨o, it, _, f⟩ := pf.itm q i hi
    obtain ⟨e, h1, h2, h3⟩ := f.msk k hk
    have hd := f.dep e h1 h2
    obtain ⟨r, hr1, hr2⟩ := (bit_take (is := is) q e.on).1 hd
    have hx := hdeps o f.op e h1 h2
    rcases h3 with rfl | h3
    · exact ⟨hx, r, hr1, hr2⟩
    · obtain ⟨c1, r', c2, c3⟩ := ih r hr1 e.on hr2 (fun o' ho' => hX e.on o' ho' hx) k h3
      exact ⟨c1, r', by omega, c3⟩
theorem anc_lt (pf : PF P n ops anc is l) {q r i k : Nat} (hi : is[q]? = some i) (hk : is[r]? = some k) (h : Anc anc i k) : r < q := by
  obtain ⟨_, r', h1, h2⟩ := anc_cl pf (X := fun _ => True) (fun _ _ _ _ _ _ _ => trivial) q i hi (fun _ _ _ _ _ => trivial) k h
  rw [pos_inj pf hk h2]; exact h1
theorem tmps_spec {i : Nat} {o : Oper} (h : tmpsOK ops anc i o = true) {k : Nat} {ok : Oper} {t : Tmp} (hne : k ≠ i) (hk : ops[k]? = some ok) (ht : ok.dst = some t) :
    o.dst ≠ some t ∧ (t ∈ Oper.looksAt ⟨ops⟩ o → Anc anc i k ∨ Anc anc k i) := by
  unfold tmpsOK at h
  simp only [List.all_eq_true] at h
  have hlt : k < ops.length := (List.getElem?_eq_some_iff.1 hk).1
  have hmem : ∀ (m j : Nat), k < j + m → j ≤ k → k ∈ rangeF m j := by
    intro m
    induction m with
    | zero => intro j h1 h2; omega
    | succ m ih =>
      intro j h1 h2
      simp only [rangeF, List.mem_cons]
      by_cases e : k = j
      · exact .inl e
      · exact .inr (ih (j + 1) (by omega) (by omega))
  have := h k (hmem (lenF ops) 0 (by rw [lenF_eq]; omega) (Nat.zero_le _))
  have hb : Nat.beq k i = false := by
    cases hb : Nat.beq k i
    · rfl
    · exact absurd (Nat.eq_of_beq_eq_true hb) hne
  simp only [hb, Bool.false_or, nthF_eq, hk, ht, Bool.and_eq_true, Bool.or_eq_true] at this
  obtain ⟨h1, h2⟩ := this
  refine ⟨fun e => ?_, fun hm => ?_⟩
  · rw [e] at h1
    simp at h1
  · rcases h2 with h2 | h2
    · simp at h2
      exact absurd hm h2
    · unfold ordered at h2
      simp only [Bool.or_eq_true, nthF_eq] at h2
      rcases h2 with h2 | h2
      · left
        split at h2
        · rename_i m hm'; exact ⟨m, hm', h2⟩
        · cases h2
      · right
        split at h2
        · rename_i m hm'; exact ⟨m, hm', h2⟩
        · cases h2
theorem effsOf_snoc : ∀ (xs : List Nat) (x : Nat) (e : List Nat), effsOf ops (xs ++ [x]) e = bif (match ops[x]? with | some o => isEff o | none => false) then x :: effsOf ops xs e else effsOf ops xs e
  | [], x, e => rfl
  | y :: xs, x, e => by simp only [List.cons_append, effsOf]; exact effsOf_snoc xs x _
theorem isEff_kd {o : Oper} {it : It} (h : kindOf o.op = some it.kd) : isEff o = true ↔ it.kd = .eff := by
  unfold isEff
  rw [h]
  cases it.kd <;> simp
end

/-! ### Along the canonical run -/
structure CR' (P : Program) (call : CallF) (n : Nat) (ops : List Oper) (anc is : List Nat) (l : List It) (L : Nat) (σ : Nat → St) (val : Nat → AV) (t0 : Regs) (h0 : AHeap) : Prop where
  pf : PF P n ops anc is l
  le : L ≤ l.length
  zero : σ 0 = ⟨t0, 0, h0, [], h0⟩
  sp : ∀ q, q < L → ∃ i, l[q]? = some i ∧ Sp call i (σ q) (val q) (σ (q + 1))
section
variable {call : CallF} {n : Nat} {ops : List Oper} {anc is : List Nat} {l : List It} {L : Nat} {σ : Nat → St} {val : Nat → AV} {t0 : Regs} {h0 : AHeap}
/-- everything about a place of the plan -/
structure Here (P : Program) (call : CallF) (n : Nat) (ops : List Oper) (anc is : List Nat) (l : List It) (σ : Nat → St) (val : Nat → AV) (q i : Nat) (o : Oper) (it : It) : Prop where
  idx : is[q]? = some i
  itm : l[q]? = some it
  f : ItF P n ops anc i (dones (is.take q) 0) (effsOf ops (is.take q) []) (is.drop (q + 1)) o it
  sp : Sp call it (σ q) (val q) (σ (q + 1))
theorem CR'.here (c : CR' P call n ops anc is l L σ val t0 h0) {q : Nat} (hq : q < L) : ∃ i o it, Here P call n ops anc is l σ val q i o it := by
  obtain ⟨it, h1, h2⟩ := c.sp q hq
  have hlt : q < is.length := by have := c.le; rw [c.pf.len] at this; omega
  obtain ⟨o, it', h3, h4⟩ := c.pf.itm q is[q] (List.getElem?_eq_getElem hlt)
  rw [h1] at h3
  injection h3 with h3; subst h3
  exact ⟨_, o, it, List.getElem?_eq_getElem hlt, h1, h4, h2⟩
theorem Here.dst_t {q i : Nat} {o : Oper} {it : It} (h : Here P call n ops anc is l σ val q i o it) : (σ (q + 1)).t = it.dst.put (val q) (σ q).t := by
  have := h.sp
  generalize σ (q + 1) = s' at this
  generalize val q = v at this
  cases this <;> rfl
theorem Here.eff_g {q i : Nat} {o : Oper} {it : It} (h : Here P call n ops anc is l σ val q i o it) (hk : it.kd = .eff) : (σ (q + 1)).h = (σ (q + 1)).g ∧ (σ (q + 1)).j = (σ q).j + 1 ∧ (σ (q + 1)).hs = (σ q).h :: (σ q).hs := by
  have := h.sp
  generalize σ (q + 1) = s' at this
  generalize val q = v at this
  cases this with
  | no hw hk' => exact absurd hk hk'
  | read hw hk' => rw [hk] at hk'; cases hk'
  | alloc hw hk' => rw [hk] at hk'; cases hk'
  | _ => exact ⟨rfl, rfl, rfl⟩
theorem Here.non {q i : Nat} {o : Oper} {it : It} (h : Here P call n ops anc is l σ val q i o it) (hk : it.kd ≠ .eff) : (σ (q + 1)).h = (σ q).h ∧ (σ (q + 1)).j = (σ q).j ∧ (σ (q + 1)).hs = (σ q).hs := by
  have := h.sp
  generalize σ (q + 1) = s' at this
  generalize val q = v at this
  cases this with
  | no hw hk' => exact ⟨rfl, rfl, rfl⟩
  | read hw hk' => exact ⟨rfl, rfl, rfl⟩
  | alloc hw hk' => exact ⟨rfl, rfl, rfl⟩
  | noEff hw hk' => exact absurd hk' hk
  | val hw hk' => exact absurd hk' hk
  | skip hw hk' => exact absurd hk' hk
  | call hw hk' => exact absurd hk' hk
/-- where a register comes from -/
theorem CR'.regs (c : CR' P call n ops anc is l L σ val t0 h0) : ∀ q, q ≤ L → ∀ (t : Nat) (v : AV), (σ q).t.at (ptOf t) = some v →
    (∃ r i o it, r < q ∧ Here P call n ops anc is l σ val r i o it ∧ o.dst = some t ∧ v = val r) ∨ ((∀ r i o it, r < q → Here P call n ops anc is l σ val r i o it → o.dst ≠ some t) ∧ t0.at (ptOf t) = some v) := by
  intro q
  induction q with
  | zero => intro _ t v hv; right; rw [c.zero] at hv; exact ⟨fun r _ _ _ hr => absurd hr (Nat.not_lt_zero _), hv⟩
  | succ q ih =>
    intro hq t v hv
    obtain ⟨i, o, it, hh⟩ := c.here (q := q) (by omega)
    rw [hh.dst_t] at hv
    have uniq : ∀ i' o' it', Here P call n ops anc is l σ val q i' o' it' → o' = o := fun i' o' it' h' => by
      have e1 := h'.idx; rw [hh.idx] at e1; injection e1 with e1; subst e1
      have e2 := h'.f.op; rw [hh.f.op] at e2; injection e2 with e2; exact e2.symm
    by_cases hd : o.dst = some t
    · left
      refine ⟨q, i, o, it, by omega, hh, hd, ?_⟩
      rcases dst_spec hh.f.dst with ⟨e1, _⟩ | ⟨t', e1, _, e2⟩
      · rw [hd] at e1; cases e1
      · rw [hd] at e1; injection e1 with e1; subst e1
        rw [e2] at hv
        simp only [Dst.put] at hv
        rw [Q.at_put, if_pos rfl] at hv
        injection hv with hv; exact hv.symm
    · have hv' : (σ q).t.at (ptOf t) = some v := by
        rcases dst_spec hh.f.dst with ⟨_, e⟩ | ⟨t', e1, _, e2⟩
        · rw [e] at hv; exact hv
        · rw [e2] at hv
          simp only [Dst.put] at hv
          rw [Q.at_put, if_neg (fun e => hd (by rw [e1, ptOf_inj e]))] at hv
          exact hv
      rcases ih (by omega) t v hv' with ⟨r, i', o', it', h1, h2, h3, h4⟩ | ⟨h1, h2⟩
      · exact .inl ⟨r, i', o', it', by omega, h2, h3, h4⟩
      · refine .inr ⟨fun r i' o' it' hr hh' => ?_, h2⟩
        by_cases e : r = q
        · subst e; rw [uniq i' o' it' hh']; exact hd
        · exact h1 r i' o' it' (by omega) hh'
/-- the memories behind effects -/
theorem CR'.mems (c : CR' P call n ops anc is l L σ val t0 h0) {p : Nat} : ∀ q, p ≤ q → q ≤ L → (σ p).j ≤ (σ q).j ∧ (((σ q).j = (σ p).j ∧ (σ q).h = (σ p).h) ∨ ((σ p).j < (σ q).j ∧ (σ q).hs[(σ q).j - (σ p).j - 1]? = some (σ p).h)) := by
  intro q
  induction q with
  | zero => intro h1 _; obtain rfl : p = 0 := by omega
            exact ⟨Nat.le_refl _, .inl ⟨rfl, rfl⟩⟩
  | succ q ih =>
    intro h1 h2
    by_cases e : p = q + 1
    · subst e; exact ⟨Nat.le_refl _, .inl ⟨rfl, rfl⟩⟩
    · obtain ⟨i1, i2⟩ := ih (by omega) (by omega)
      obtain ⟨i, o, it, hh⟩ := c.here (q := q) (by omega)
      by_cases hk : it.kd = .eff
      · obtain ⟨_, e2, e3⟩ := hh.eff_g hk
        refine ⟨by omega, .inr ⟨by omega, ?_⟩⟩
        rw [e2, e3]
        rcases i2 with ⟨j1, j2⟩ | ⟨j1, j2⟩
        · rw [show (σ q).j + 1 - (σ p).j - 1 = 0 by omega, ← j2]; rfl
        · rw [show (σ q).j + 1 - (σ p).j - 1 = ((σ q).j - (σ p).j - 1) + 1 by omega]; exact j2
      · obtain ⟨e1, e2, e3⟩ := hh.non hk
        rw [e1, e2, e3]; exact ⟨i1, i2⟩
theorem CR'.effs (c : CR' P call n ops anc is l L σ val t0 h0) : ∀ q, q ≤ L → (effsOf ops (is.take q) []).length = (σ q).j ∧ ∀ k e, 1 ≤ k → k ≤ (σ q).j → (effsOf ops (is.take q) [])[(σ q).j - k]? = some e →
    ∃ r i o it, r < q ∧ Here P call n ops anc is l σ val r i o it ∧ i = e ∧ it.kd = .eff ∧ (σ r).j + 1 = k := by
  intro q
  induction q with
  | zero => intro _; rw [c.zero]; exact ⟨rfl, fun k e h1 h2 => by have h2 : k ≤ 0 := h2; omega⟩
  | succ q ih =>
    intro hq
    obtain ⟨i1, i2⟩ := ih (by omega)
    obtain ⟨i, o, it, hh⟩ := c.here (q := q) (by omega)
    have htake : is.take (q + 1) = is.take q ++ [i] := by
      rw [List.take_add_one, hh.idx]; rfl
    rw [htake, effsOf_snoc, hh.f.op]
    simp only
    have hie := isEff_kd (o := o) hh.f.kd
    by_cases hk : it.kd = .eff
    · obtain ⟨_, e2, _⟩ := hh.eff_g hk
      rw [hie.2 hk, cond_true, e2]
      refine ⟨by simp [i1], fun k e h1 h2 he => ?_⟩
      by_cases ek : k = (σ q).j + 1
      · subst ek
        rw [Nat.sub_self] at he
        simp only [List.getElem?_cons_zero, Option.some.injEq] at he
        exact ⟨q, i, o, it, by omega, hh, he, hk, rfl⟩
      · rw [show (σ q).j + 1 - k = ((σ q).j - k) + 1 by omega, List.getElem?_cons_succ] at he
        obtain ⟨r, a, b, d, w1, w2⟩ := i2 k e h1 (by omega) he
        exact ⟨r, a, b, d, by omega, w2⟩
    · obtain ⟨_, e2, _⟩ := hh.non hk
      have : isEff o = false := by
        cases hb : isEff o
        · rfl
        · exact absurd (hie.1 hb) hk
      rw [this, cond_false, e2]
      refine ⟨i1, fun k e h1 h2 he => ?_⟩
      obtain ⟨r, a, b, d, w1, w2⟩ := i2 k e h1 h2 he
      exact ⟨r, a, b, d, by omega, w2⟩
end
end Go.Eng
