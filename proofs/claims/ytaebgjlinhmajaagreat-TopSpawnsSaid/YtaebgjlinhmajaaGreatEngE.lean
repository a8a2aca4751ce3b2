/-
  The evaluator is sound: regions that draw their order; hooks for sorted keys and for a list of one term.
-/
import Derived.Laws.AppendOwn
import Derived.Below
import Derived.Test.YtaebgjlinhmajaaGreatEngD
namespace Go.Eng
variable {P : Program}

theorem HR.ext {θ θ' : Env} {g : AHeap} {W W' : World} (hr : HR θ g W) (ha : Agree g.D θ θ') (hw : ∀ B, B < W.heap.size → W'.heap[B]? = W.heap[B]?) (hs : W.heap.size ≤ W'.heap.size) : HR θ' g W' := by
  refine ⟨fun p hp => ?_, hr.dom, fun b c o o' hb hc e => ?_, fun b o hb => ?_⟩
  · rw [(ha p hp).1]; exact Nat.lt_of_lt_of_le (hr.low p hp) hs
  · rw [(ha b (hr.dom b o hb)).1, (ha c (hr.dom c o' hc)).1] at e
    exact hr.inj b c o o' hb hc e
  · exact (hr.obj b o hb).keep (hr.dom b o hb) ha (fun _ h => h) (hw _ (hr.low b (hr.dom b o hb)))
theorem HR.absSkip {θ : Env} {g : AHeap} {W : World} (hr : HR θ g W) (h : θ.blk g.next < W.heap.size) : HR θ g.skip W := by
  refine ⟨fun p hp => ?_, fun b o hb => ?_, fun b c o o' hb hc e => hr.inj b c o o' hb hc e, fun b o hb => ?_⟩
  · rw [AHeap.next_skip] at hp
    by_cases e : p = g.next
    · subst e; exact h
    · have : p.toNat ≠ g.next.toNat := fun e' => e (Pt.toNat_inj e')
      exact hr.low p (by omega)
  · have := hr.dom b o hb; rw [AHeap.next_skip]; omega
  · exact (hr.obj b o hb).keep (hr.dom b o hb) (Agree.refl _ _) (fun p (hp : p.toNat < g.next.toNat) => by show p.toNat < g.skip.next.toNat; rw [AHeap.next_skip]; omega) rfl
theorem HR.absNew {θ : Env} {g : AHeap} {W : World} {ob : AObj} (hr : HR θ g W) (h : θ.blk g.next < W.heap.size) (ho : ObjR θ (fun p => p.toNat < g.next.toNat + 1) g.next W ob)
    (hd : ∀ b o, g.get b = some o → θ.blk b ≠ θ.blk g.next) : HR θ (g.new ob) W := by
  have hg : ∀ b o, (g.new ob).get b = some o → (b = g.next ∧ o = ob) ∨ (b ≠ g.next ∧ g.get b = some o) := fun b o hb => by
    rw [AHeap.get_new] at hb
    split at hb
    · rename_i e; injection hb with hb; exact .inl ⟨e, hb.symm⟩
    · rename_i e; exact .inr ⟨e, hb⟩
  have hD : (g.new ob).D = fun p => p.toNat < g.next.toNat + 1 := funext fun p => by rw [AHeap.D, AHeap.next_new]
  refine ⟨fun p hp => ?_, fun b o hb => ?_, fun b c o o' hb hc e => ?_, fun b o hb => ?_⟩
  · rw [AHeap.next_new] at hp
    by_cases e : p = g.next
    · subst e; exact h
    · have : p.toNat ≠ g.next.toNat := fun e' => e (Pt.toNat_inj e')
      exact hr.low p (by omega)
  · rw [AHeap.next_new]
    rcases hg b o hb with ⟨rfl, _⟩ | ⟨_, h2⟩
    · omega
    · have := hr.dom b o h2; omega
  · rcases hg b o hb with ⟨rfl, _⟩ | ⟨_, h2⟩ <;> rcases hg c o' hc with ⟨rfl, _⟩ | ⟨_, h4⟩
    · rfl
    · exact absurd e.symm (hd c o' h4)
    · exact absurd e (hd b o h2)
    · exact hr.inj b c o o' h2 h4 e
  · rw [hD]
    rcases hg b o hb with ⟨rfl, rfl⟩ | ⟨_, h2⟩
    · exact ho
    · exact (hr.obj b o h2).keep (hr.dom b o h2) (Agree.refl _ _) (fun p (hp : p.toNat < g.next.toNat) => by show p.toNat < _; omega) rfl

/-- what a making operation does to a memory -/
def ap : Option (Option AObj) → AHeap → AHeap
  | none, g => g
  | some none, g => g.skip
  | some (some ob), g => g.new ob
theorem ap_next (k : Option (Option AObj)) (g : AHeap) : (ap k g).next.toNat = match k with | none => g.next.toNat | some _ => g.next.toNat + 1 := by
  cases k with
  | none => rfl
  | some k => cases k with
    | none => exact AHeap.next_skip g
    | some o => exact AHeap.next_new g o

section
variable {call : CallF} {n : Nat} {ops : List Oper} {anc is : List Nat} {l : List It} {L : Nat} {σ : Nat → St} {val : Nat → AV} {t0 : Regs} {h0 : AHeap}
def nx (σ : Nat → St) (q : Nat) : Nat := (σ q).g.next.toNat
/-- the numbers that have been given -/
def Asg (σ : Nat → St) (E : Nat → Prop) (p : Nat) (x : Pt) : Prop := x.toNat < nx σ p ∨ ∃ q, p ≤ q ∧ E q ∧ nx σ q ≤ x.toNat ∧ x.toNat < nx σ (q + 1)
def Dq (σ : Nat → St) (E : Nat → Prop) (p q : Nat) (x : Pt) : Prop := x.toNat < nx σ (q + 1) ∧ Asg σ E p x
/-- the makings of the canonical run -/
structure KF (P : Program) (call : CallF) (n : Nat) (ops : List Oper) (anc is : List Nat) (l : List It) (L : Nat) (σ : Nat → St) (val : Nat → AV) (K : Nat → Option (Option AObj)) : Prop where
  app : ∀ q i o it, q < L → Here P call n ops anc is l σ val q i o it → it.kd ≠ .eff → (σ (q + 1)).g = ap (K q) (σ q).g
theorem nx_step (c : CR' P call n ops anc is l L σ val t0 h0) {K : Nat → Option (Option AObj)} (kf : KF P call n ops anc is l L σ val K) {q : Nat} (hq : q < L) : nx σ q ≤ nx σ (q + 1) := by
  obtain ⟨i, o, it, hh⟩ := c.here hq
  by_cases hk : it.kd = .eff
  · have := hh.sp
    unfold nx
    generalize σ (q + 1) = s' at this
    generalize val q = v at this
    cases this with
    | no hw hk' => exact absurd hk hk'
    | read hw hk' => rw [hk] at hk'; cases hk'
    | alloc hw hk' => rw [hk] at hk'; cases hk'
    | noEff => exact Nat.le_refl _
    | val _ _ _ hg => exact Nat.le_of_ble_eq_true hg
    | skip _ _ _ hg => exact Nat.le_of_ble_eq_true hg
    | call _ _ _ _ hg => exact Nat.le_of_ble_eq_true hg
  · unfold nx
    rw [kf.app q i o it hq hh hk, ap_next]
    split <;> omega
theorem nx_mono (c : CR' P call n ops anc is l L σ val t0 h0) {K : Nat → Option (Option AObj)} (kf : KF P call n ops anc is l L σ val K) {p : Nat} : ∀ q, p ≤ q → q ≤ L → nx σ p ≤ nx σ q := by
  intro q
  induction q with
  | zero => intro h _; obtain rfl : p = 0 := by omega
            exact Nat.le_refl _
  | succ q ih =>
    intro h hq
    by_cases e : p = q + 1
    · subst e; exact Nat.le_refl _
    · exact Nat.le_trans (ih (by omega) (by omega)) (nx_step c kf (by omega))

structure Inv (P : Program) (call : CallF) (n : Nat) (ops : List Oper) (anc is : List Nat) (l : List It) (L : Nat) (σ : Nat → St) (val : Nat → AV) (h0 : AHeap) (K : Nat → Option (Option AObj))
    (θ0 : Env) (W0 : World) (a0 : Act) (E : Nat → Prop) (p : Nat) (θ : Env) (W : World) (a : Act) : Prop where
  pL : p ≤ L
  bef : ∀ q, q < p → E q
  lt : ∀ q, E q → q < L
  noe : ∀ q i o it, p ≤ q → Here P call n ops anc is l σ val q i o it → it.kd = .eff → ¬ E q
  hg : (σ p).h = (σ p).g
  hr : HR θ (σ p).g W
  size : W0.heap.size ≤ W.heap.size
  frame : ∀ B, B < W0.heap.size → (∀ b o, h0.get b = some o → θ0.blk b ≠ B) → W.heap[B]? = W0.heap[B]?
  img : ∀ b o, (σ p).g.get b = some o → W0.heap.size ≤ θ.blk b ∨ ∃ c o', h0.get c = some o' ∧ θ.blk b = θ0.blk c
  agree : ∀ x : Pt, (x.toNat < h0.next.toNat ∨ nx σ L ≤ x.toNat) → θ.blk x = θ0.blk x ∧ θ.base x = θ0.base x ∧ θ.cap x = θ0.cap x
  os : W.os = W0.os
  out : W.output = W0.output
  skp : ∀ q, p ≤ q → E q → K q = some none → θ.blk (σ q).g.next < W.heap.size
  new : ∀ q ob, p ≤ q → E q → K q = some (some ob) → ObjR θ (Dq σ E p q) (σ q).g.next W ob ∧ W0.heap.size ≤ θ.blk (σ q).g.next ∧ θ.blk (σ q).g.next < W.heap.size ∧
    (∀ b o, (σ p).g.get b = some o → θ.blk b ≠ θ.blk (σ q).g.next) ∧ (∀ r ob', p ≤ r → E r → r ≠ q → K r = some (some ob') → θ.blk (σ r).g.next ≠ θ.blk (σ q).g.next)
  reg : ∀ q i o it, E q → Here P call n ops anc is l σ val q i o it → (val q).ok θ (Dq σ E p q) ∧ ∀ t, o.dst = some t → a.eval (.tmp t) = (val q).conc θ
  reg0 : ∀ t, (∀ q i o it, E q → Here P call n ops anc is l σ val q i o it → o.dst ≠ some t) → a.eval (.tmp t) = a0.eval (.tmp t)
  asize : a.tmps.size = a0.tmps.size
  adefs : a.defers = a0.defers

variable {K : Nat → Option (Option AObj)} {θ0 : Env} {W0 : World} {a0 : Act} {E : Nat → Prop} {p : Nat} {θ : Env} {W : World} {a : Act}
/-- all up to a place being done, the memory of that place is there -/
theorem Inv.absorb (c : CR' P call n ops anc is l L σ val t0 h0) (kf : KF P call n ops anc is l L σ val K) (v : Inv P call n ops anc is l L σ val h0 K θ0 W0 a0 E p θ W a) :
    ∀ q, p ≤ q → q ≤ L → (∀ r, r < q → E r) → HR θ (σ q).g W ∧ (∀ b o, (σ q).g.get b = some o → W0.heap.size ≤ θ.blk b ∨ ∃ c o', h0.get c = some o' ∧ θ.blk b = θ0.blk c) ∧
      (∀ b o, (σ q).g.get b = some o → ∀ r ob, q ≤ r → E r → K r = some (some ob) → θ.blk b ≠ θ.blk (σ r).g.next) := by
  intro q
  induction q with
  | zero =>
    intro h1 _ _
    obtain rfl : p = 0 := by omega
    exact ⟨v.hr, v.img, fun b o hb r ob h2 h3 h4 => (v.new r ob h2 h3 h4).2.2.2.1 b o hb⟩
  | succ q ih =>
    intro h1 h2 h3
    by_cases e : p = q + 1
    · subst e
      exact ⟨v.hr, v.img, fun b o hb r ob h2 h3 h4 => (v.new r ob h2 h3 h4).2.2.2.1 b o hb⟩
    · obtain ⟨i1, i2, i3⟩ := ih (by omega) (by omega) (fun r hr => h3 r (by omega))
      obtain ⟨i, o, it, hh⟩ := c.here (q := q) (by omega)
      have hE : E q := h3 q (by omega)
      have hk : it.kd ≠ .eff := fun hk => v.noe q i o it (by omega) hh hk hE
      have happ := kf.app q i o it (by omega) hh hk
      rw [happ]
      cases hK : K q with
      | none => exact ⟨i1, i2, fun b o hb r ob g1 g2 g3 => i3 b o hb r ob (by omega) g2 g3⟩
      | some kk =>
        cases kk with
        | none => exact ⟨i1.absSkip (v.skp q (by omega) hE hK), i2, fun b o hb r ob g1 g2 g3 => i3 b o hb r ob (by omega) g2 g3⟩
        | some ob =>
          obtain ⟨n1, n2, n3, n4, n5⟩ := v.new q ob (by omega) hE hK
          have hDq : ∀ x, Dq σ E p q x → x.toNat < (σ q).g.next.toNat + 1 := fun x hx => by
            have := hx.1
            unfold nx at this
            rw [happ, hK] at this
            rw [show (ap (some (some ob)) (σ q).g).next.toNat = (σ q).g.next.toNat + 1 from AHeap.next_new _ _] at this
            exact this
          have hown : Dq σ E p q (σ q).g.next := by
            refine ⟨?_, .inr ⟨q, by omega, hE, Nat.le_refl _, ?_⟩⟩
            all_goals
              unfold nx
              rw [happ, hK, show (ap (some (some ob)) (σ q).g).next.toNat = (σ q).g.next.toNat + 1 from AHeap.next_new _ _]; omega
          refine ⟨i1.absNew n3 (n1.keep hown (Agree.refl _ _) hDq rfl) (fun b o hb => i3 b o hb q ob (Nat.le_refl _) hE hK), fun b o hb => ?_, fun b o hb r ob' g1 g2 g3 => ?_⟩
          · rw [show ap (some (some ob)) (σ q).g = (σ q).g.new ob from rfl, AHeap.get_new] at hb
            split at hb
            · rename_i e; subst e; exact .inl n2
            · exact i2 b o hb
          · rw [show ap (some (some ob)) (σ q).g = (σ q).g.new ob from rfl, AHeap.get_new] at hb
            split at hb
            · rename_i e; subst e
              exact fun e => (v.new r ob' (by omega) g2 g3).2.2.2.2 q ob (by omega) hE (by omega) hK e
            · exact i3 b o hb r ob' (by omega) g2 g3
end
end Go.Eng
namespace Go.Eng
variable {P : Program}
def pickR (T : Regs) : List Nat → Regs
  | [] => .nil
  | t :: ts => (pickR T ts).put (T.at (ptOf t)) (ptOf t)
theorem pickR_at (T : Regs) : ∀ (ts : List Nat) (t : Nat), (pickR T ts).at (ptOf t) = if t ∈ ts then T.at (ptOf t) else none
  | [], t => by simp [pickR, Q.at_nil]
  | s :: ts, t => by
    rw [pickR, Q.at_put]
    by_cases e : t = s
    · subst e; simp
    · rw [if_neg (fun h => e (ptOf_inj h)), pickR_at T ts t]
      simp [e]
theorem eval_put_ne {a : Act} {dst : Option Tmp} {v : Value} {t : Nat} (h : dst ≠ some t) : (a.put dst v).eval (.tmp t) = a.eval (.tmp t) := Act.eval_put fun d hd e => by
  injection e with e; subst e; exact h hd
theorem eval_put_eq {a : Act} {v : Value} {t : Nat} (h : t < a.tmps.size) : (a.put (some t) v).eval (.tmp t) = v := by
  simp only [Act.eval, Act.put]
  rw [Array.getD_eq_getD_getElem?, Array.getElem?_setIfInBounds_self_of_lt h]; rfl
section
variable {call : CallF} {n : Nat} {ops : List Oper} {anc is : List Nat} {l : List It} {L : Nat} {σ : Nat → St} {val : Nat → AV} {t0 : Regs} {h0 : AHeap}
variable {K : Nat → Option (Option AObj)} {θ0 : Env} {W0 : World} {a0 : Act} {ds : Defs} {E : Nat → Prop} {p : Nat} {θ : Env} {W : World} {a : Act}
theorem Here.same {q i i' : Nat} {o o' : Oper} {it it' : It} (h : Here P call n ops anc is l σ val q i o it) (h' : Here P call n ops anc is l σ val q i' o' it') : i' = i ∧ o' = o ∧ it' = it := by
  have e1 := h'.idx; rw [h.idx] at e1; injection e1 with e1; subst e1
  have e2 := h'.f.op; rw [h.f.op] at e2; injection e2 with e2
  have e3 := h'.itm; rw [h.itm] at e3; injection e3 with e3
  exact ⟨rfl, e2.symm, e3.symm⟩
theorem CR'.zero_nx (c : CR' P call n ops anc is l L σ val t0 h0) : nx σ 0 = h0.next.toNat := by unfold nx; rw [c.zero]
theorem Inv.rel (c : CR' P call n ops anc is l L σ val t0 h0) (kf : KF P call n ops anc is l L σ val K) (ha0 : ActR P n θ0 h0 t0 ds a0) (v : Inv P call n ops anc is l L σ val h0 K θ0 W0 a0 E p θ W a)
    {q i : Nat} {o : Oper} (hq : q ≤ L) (hpq : p ≤ q) (hE : ¬ E q) (hi : is[q]? = some i) (hop : ops[i]? = some o) (htmp : tmpsOK ops anc i o = true)
    (h1 : ∀ r k, is[r]? = some k → Anc anc i k → E r) (h2 : ∀ r k, E r → is[r]? = some k → ¬ Anc anc k i) :
    RelR θ (fun x => x.toNat < nx σ q ∧ Asg σ E p x) (pickR (σ q).t (Oper.looksAt ⟨ops⟩ o)) a.eval := by
  refine ⟨fun t u hu => ?_, fun _ => rfl, fun _ => rfl⟩
  rw [pickR_at] at hu
  split at hu
  · rename_i hmem
    rcases c.regs q hq t u hu with ⟨r, k, o', it', g1, g2, g3, rfl⟩ | ⟨g1, g2⟩
    · have hne : k ≠ i := fun e => by subst e; have := pos_inj c.pf g2.idx hi; omega
      rcases (tmps_spec htmp hne g2.f.op g3).2 hmem with h | h
      · have hEr := h1 r k g2.idx h
        obtain ⟨w1, w2⟩ := v.reg r k o' it' hEr g2
        refine ⟨ok_mono (fun x hx => ⟨Nat.lt_of_lt_of_le hx.1 (nx_mono c kf q (by omega) hq), hx.2⟩) w1, w2 t g3⟩
      · have := anc_lt c.pf g2.idx hi h; omega
    · obtain ⟨w1, w2⟩ := ha0.rel.reg t u g2
      have hag : Agree h0.D θ0 θ := fun x hx => v.agree x (.inl hx)
      have hsub : ∀ x, h0.D x → x.toNat < nx σ q ∧ Asg σ E p x := fun x (hx : x.toNat < h0.next.toNat) => by
        have e0 := c.zero_nx
        have m1 := nx_mono c kf (p := 0) q (by omega) hq
        have m2 := nx_mono c kf (p := 0) p (by omega) v.pL
        exact ⟨by omega, .inl (by omega)⟩
      refine ⟨ok_agree hag hsub u w1, ?_⟩
      rw [conc_agree hag u w1, ← w2]
      refine v.reg0 t fun r k o' it' hEr hr hd => ?_
      by_cases hlt : r < q
      · exact g1 r k o' it' hlt hr hd
      · have hne' : r ≠ q := fun e => by subst e; exact hE hEr
        have hne : k ≠ i := fun e => by subst e; exact hne' (pos_inj c.pf hr.idx hi)
        rcases (tmps_spec htmp hne hr.f.op hd).2 hmem with h | h
        · have := anc_lt c.pf hi hr.idx h; omega
        · exact h2 r k hEr hr.idx h
  · cases hu
theorem Inv.full (c : CR' P call n ops anc is l L σ val t0 h0) (kf : KF P call n ops anc is l L σ val K) (ha0 : ActR P n θ0 h0 t0 ds a0) (v : Inv P call n ops anc is l L σ val h0 K θ0 W0 a0 E p θ W a)
    {q : Nat} (hq : q ≤ L) (h1 : ∀ r, r < q → E r) (h2 : ∀ r, E r → r < q) : RelR θ (fun x => x.toNat < nx σ q) (σ q).t a.eval := by
  refine ⟨fun t u hu => ?_, fun _ => rfl, fun _ => rfl⟩
  rcases c.regs q hq t u hu with ⟨r, k, o', it', g1, g2, g3, rfl⟩ | ⟨g1, g2⟩
  · obtain ⟨w1, w2⟩ := v.reg r k o' it' (h1 r g1) g2
    exact ⟨ok_mono (fun x hx => Nat.lt_of_lt_of_le hx.1 (nx_mono c kf q (by omega) hq)) w1, w2 t g3⟩
  · obtain ⟨w1, w2⟩ := ha0.rel.reg t u g2
    have hag : Agree h0.D θ0 θ := fun x hx => v.agree x (.inl hx)
    refine ⟨ok_agree hag (fun x (hx : x.toNat < h0.next.toNat) => ?_) u w1, ?_⟩
    · have e0 := c.zero_nx
      have m1 := nx_mono c kf (p := 0) q (by omega) hq
      omega
    · rw [conc_agree hag u w1, ← w2]
      exact v.reg0 t fun r k o' it' hEr hr hd => g1 r k o' it' (h2 r hEr) hr hd
theorem Asg.mono {E E' : Nat → Prop} (h : ∀ q, E q → E' q) {x : Pt} (hx : Asg σ E p x) : Asg σ E' p x := by
  rcases hx with hx | ⟨q, a1, a2, a3⟩
  · exact .inl hx
  · exact .inr ⟨q, a1, h q a2, a3⟩
/-- an operation that is no effect has run -/
theorem Inv.non (c : CR' P call n ops anc is l L σ val t0 h0) (kf : KF P call n ops anc is l L σ val K) (ha0 : ActR P n θ0 h0 t0 ds a0) (v : Inv P call n ops anc is l L σ val h0 K θ0 W0 a0 E p θ W a)
    {q i : Nat} {o : Oper} {it : It} (hq : q < L) (hpq : p ≤ q) (hE : ¬ E q) (hh : Here P call n ops anc is l σ val q i o it) (hk : it.kd ≠ .eff) {θ' : Env} {W' : World}
    (hθ : ∀ x, (K q = none ∨ x ≠ (σ q).g.next) → θ'.blk x = θ.blk x ∧ θ'.base x = θ.base x ∧ θ'.cap x = θ.cap x) (hW : ∀ B, B < W.heap.size → W'.heap[B]? = W.heap[B]?) (hsz : W.heap.size ≤ W'.heap.size)
    (hos : W'.os = W.os) (hout : W'.output = W.output) (hv : (val q).ok θ' (Dq σ (fun r => E r ∨ r = q) p q)) (hskip : K q = some none → θ'.blk (σ q).g.next < W'.heap.size)
    (hnew : ∀ ob, K q = some (some ob) → ObjR θ' (Dq σ (fun r => E r ∨ r = q) p q) (σ q).g.next W' ob ∧ W.heap.size ≤ θ'.blk (σ q).g.next ∧ θ'.blk (σ q).g.next < W'.heap.size) :
    Inv P call n ops anc is l L σ val h0 K θ0 W0 a0 (fun r => E r ∨ r = q) p θ' W' (a.put o.dst ((val q).conc θ')) := by
  have hnxq : K q ≠ none → nx σ (q + 1) = nx σ q + 1 := fun hne => by
    unfold nx; rw [kf.app q i o it hq hh hk, ap_next]
    cases hK : K q with
    | none => exact absurd hK hne
    | some _ => rfl
  have hag : Agree (Asg σ E p) θ θ' := fun x hx => hθ x (by
    by_cases hK : K q = none
    · exact .inl hK
    · right
      intro e
      have e2 := hnxq hK
      have ex : x.toNat = nx σ q := by rw [e]; rfl
      rcases hx with hx | ⟨r, r1, r2, r3, r4⟩
      · have := nx_mono c kf (p := p) q hpq (by omega); omega
      · have hrL := v.lt r r2
        rcases Nat.lt_trichotomy r q with h | h | h
        · have := nx_mono c kf (p := r + 1) q (by omega) (by omega); omega
        · subst h; exact hE r2
        · have := nx_mono c kf (p := q + 1) r (by omega) (by omega); omega)
  have hagD : Agree (σ p).g.D θ θ' := fun x hx => hag x (.inl hx)
  have hsub : ∀ r x, Dq σ E p r x → Dq σ (fun r => E r ∨ r = q) p r x := fun r x hx => ⟨hx.1, Asg.mono (fun _ h => .inl h) hx.2⟩
  have hagq : ∀ r, Agree (Dq σ E p r) θ θ' := fun r x hx => hag x hx.2
  have hsize := v.asize
  have hn := ha0.size
  have asgnum : ∀ r, p ≤ r → E r → K r ≠ none → Asg σ E p (σ r).g.next := fun r h1 h2 h3 => by
    obtain ⟨i', o', it', hh'⟩ := c.here (v.lt r h2)
    have hk' : it'.kd ≠ .eff := fun hk' => v.noe r i' o' it' h1 hh' hk' h2
    refine .inr ⟨r, h1, h2, Nat.le_refl _, ?_⟩
    unfold nx; rw [kf.app r i' o' it' (v.lt r h2) hh' hk', ap_next]
    cases hK : K r with
    | none => exact absurd hK h3
    | some _ => simp only; omega
  refine ⟨v.pL, fun r hr => .inl (v.bef r hr), fun r hr => hr.elim (v.lt r) (fun e => e ▸ hq), fun r i' o' it' h1 h2 h3 h4 => ?_, v.hg, v.hr.ext hagD hW hsz, Nat.le_trans v.size hsz, fun B hB hn => ?_, fun b o' hb => ?_,
    fun x hx => ?_, hos.trans v.os, hout.trans v.out, fun r h1 h2 h3 => ?_, fun r ob h1 h2 h3 => ?_, fun r i' o' it' h1 h2 => ?_, fun t ht => ?_, ?_, ?_⟩
  · rcases h4 with h4 | h4
    · exact v.noe r i' o' it' h1 h2 h3 h4
    · subst h4
      obtain ⟨_, _, e⟩ := hh.same h2
      rw [e] at h3; exact hk h3
  · rw [hW B (Nat.lt_of_lt_of_le hB v.size)]; exact v.frame B hB hn
  · rw [(hagD b (v.hr.dom b o' hb)).1]; exact v.img b o' hb
  · have := v.agree x hx
    have h' := hθ x (by
      by_cases hK : K q = none
      · exact .inl hK
      · right
        intro e
        have ex : x.toNat = nx σ q := by rw [e]; rfl
        have e2 := hnxq hK
        have e0 := c.zero_nx
        have m1 := nx_mono c kf (p := 0) q (by omega) (by omega)
        have m2 := nx_mono c kf (p := q + 1) L (by omega) (Nat.le_refl _)
        omega)
    exact ⟨h'.1.trans this.1, h'.2.1.trans this.2.1, h'.2.2.trans this.2.2⟩
  · rcases h2 with h2 | h2
    · rw [(hag _ (asgnum r h1 h2 (by rw [h3]; simp))).1]
      exact Nat.lt_of_lt_of_le (v.skp r h1 h2 h3) hsz
    · subst h2; exact hskip h3
  · rcases h2 with h2 | h2
    · obtain ⟨n1, n2, n3, n4, n5⟩ := v.new r ob h1 h2 h3
      have hown := asgnum r h1 h2 (by rw [h3]; simp)
      have hne : r ≠ q := fun e => by subst e; exact hE h2
      have hbl := (hag _ hown).1
      refine ⟨n1.keep ?_ (hagq r) (hsub r) (hW _ n3), by rw [hbl]; exact n2, by rw [hbl]; exact Nat.lt_of_lt_of_le n3 hsz, fun b o' hb => by rw [hbl, (hagD b (v.hr.dom b o' hb)).1]; exact n4 b o' hb, fun s ob' s1 s2 s3 s4 => ?_⟩
      · refine ⟨?_, hown⟩
        obtain ⟨i', o', it', hh'⟩ := c.here (v.lt r h2)
        have hk' : it'.kd ≠ .eff := fun hk' => v.noe r i' o' it' h1 hh' hk' h2
        unfold nx; rw [kf.app r i' o' it' (v.lt r h2) hh' hk', ap_next, h3]; simp only; omega
      · rw [hbl]
        rcases s2 with s2 | s2
        · rw [(hag _ (asgnum s s1 s2 (by rw [s4]; simp))).1]; exact n5 s ob' s1 s2 s3 s4
        · subst s2
          have := (hnew ob' s4).2.1
          omega
    · subst h2
      obtain ⟨m1, m2, m3⟩ := hnew ob h3
      refine ⟨m1, Nat.le_trans v.size m2, m3, fun b o' hb => ?_, fun s ob' s1 s2 s3 s4 => ?_⟩
      · rw [(hagD b (v.hr.dom b o' hb)).1]
        have := v.hr.low b (v.hr.dom b o' hb); omega
      · rcases s2 with s2 | s2
        · rw [(hag _ (asgnum s s1 s2 (by rw [s4]; simp))).1]
          have := (v.new s ob' s1 s2 s4).2.2.1; omega
        · exact absurd s2 s3
  · by_cases e : r = q
    · subst e
      obtain ⟨_, e2, _⟩ := hh.same h2
      subst e2
      refine ⟨hv, fun t ht => ?_⟩
      rcases dst_spec hh.f.dst with ⟨e1, _⟩ | ⟨t', e1, hlt, _⟩
      · rw [ht] at e1; cases e1
      · rw [ht] at e1; injection e1 with e1; subst e1
        rw [ht]; exact eval_put_eq (by omega)
    · have hEr : E r := h1.resolve_right e
      obtain ⟨w1, w2⟩ := v.reg r i' o' it' hEr h2
      refine ⟨ok_agree (hagq r) (hsub r) _ w1, fun t ht => ?_⟩
      have hne : i' ≠ i := fun e' => by subst e'; exact e (pos_inj c.pf h2.idx hh.idx)
      have hd := (tmps_spec hh.f.tmp hne h2.f.op ht).1
      rw [eval_put_ne hd, w2 t ht, conc_agree (hagq r) _ w1]
  · rw [eval_put_ne (ht q i o it (.inr rfl) hh)]
    exact v.reg0 t fun r i' o' it' hr hh' => ht r i' o' it' (.inl hr) hh'
  · rw [Act.put_size]; exact v.asize
  · rw [Act.put_defs]; exact v.adefs
end
end Go.Eng
namespace Go.Eng
variable {P : Program}
section
variable {call : CallF} {n : Nat} {ops : List Oper} {anc is : List Nat} {l : List It} {L : Nat} {σ : Nat → St} {val : Nat → AV} {t0 : Regs} {h0 : AHeap}
variable {K : Nat → Option (Option AObj)} {θ0 : Env} {W0 : World} {a0 : Act} {ds : Defs} {E : Nat → Prop} {p : Nat} {θ : Env} {W : World} {a : Act}
/-- an effect has run -/
theorem Inv.eff (c : CR' P call n ops anc is l L σ val t0 h0) (kf : KF P call n ops anc is l L σ val K) (ha0 : ActR P n θ0 h0 t0 ds a0) (v : Inv P call n ops anc is l L σ val h0 K θ0 W0 a0 E p θ W a)
    {q i : Nat} {o : Oper} {it : It} (hq : q < L) (hpq : p ≤ q) (hE : ¬ E q) (hall : ∀ r, r < q → E r) (hh : Here P call n ops anc is l σ val q i o it) (hk : it.kd = .eff) {θ' : Env} {W' : World}
    (st : Step θ (σ q).g W θ' (σ (q + 1)).g W') (hv : (val q).ok θ' (σ (q + 1)).g.D) :
    Inv P call n ops anc is l L σ val h0 K θ0 W0 a0 (fun r => E r ∨ r = q) (q + 1) θ' W' (a.put o.dst ((val q).conc θ')) := by
  obtain ⟨b1, b2, b3⟩ := v.absorb c kf q hpq (by omega) hall
  have mq : nx σ p ≤ nx σ q := nx_mono c kf q hpq (by omega)
  have mq1 : nx σ q ≤ nx σ (q + 1) := nx_step c kf hq
  have e0 := c.zero_nx
  have m0 : nx σ 0 ≤ nx σ q := nx_mono c kf q (by omega) (by omega)
  have mL : nx σ (q + 1) ≤ nx σ L := nx_mono c kf L (by omega) (Nat.le_refl _)
  have hag : Agree (Asg σ E p) θ θ' := fun x hx => st.agree x (by
    rcases hx with hx | ⟨r, r1, r2, r3, r4⟩
    · left; show x.toNat < nx σ q; omega
    · have hrL := v.lt r r2
      rcases Nat.lt_trichotomy r q with h | h | h
      · left
        have := nx_mono c kf (p := r + 1) q (by omega) (by omega)
        show x.toNat < nx σ q; omega
      · subst h; exact absurd r2 hE
      · right
        have := nx_mono c kf (p := q + 1) r (by omega) (by omega)
        show nx σ (q + 1) ≤ x.toNat; omega)
  have hasg : ∀ x, Asg σ E p x → Asg σ (fun r => E r ∨ r = q) (q + 1) x := fun x hx => by
    rcases hx with hx | ⟨r, r1, r2, r3, r4⟩
    · left; omega
    · have hrL := v.lt r r2
      by_cases h : r < q + 1
      · left
        have := nx_mono c kf (p := r + 1) (q + 1) (by omega) (by omega)
        omega
      · exact .inr ⟨r, by omega, .inl r2, r3, r4⟩
  have hsub : ∀ r x, Dq σ E p r x → Dq σ (fun r => E r ∨ r = q) (q + 1) r x := fun r x hx => ⟨hx.1, hasg x hx.2⟩
  have hagq : ∀ r, Agree (Dq σ E p r) θ θ' := fun r x hx => hag x hx.2
  have hsize := v.asize
  have hn := ha0.size
  have late : ∀ r, q + 1 ≤ r → E r → ∀ x : Pt, x = (σ r).g.next → θ'.blk x = θ.blk x := fun r h1 h2 x hx => by
    refine (st.agree x (.inr ?_)).1
    have hrL := v.lt r h2
    have := nx_mono c kf (p := q + 1) r h1 (by omega)
    rw [hx]; exact this
  refine ⟨by omega, fun r hr => ?_, fun r hr => hr.elim (v.lt r) (fun e => e ▸ hq), fun r i' o' it' h1 h2 h3 h4 => ?_, (hh.eff_g hk).1, st.hr, Nat.le_trans v.size st.size, fun B hB hn => ?_, fun b o' hb => ?_,
    fun x hx => ?_, st.os.trans v.os, st.out.trans v.out, fun r h1 h2 h3 => ?_, fun r ob h1 h2 h3 => ?_, fun r i' o' it' h1 h2 => ?_, fun t ht => ?_, ?_, ?_⟩
  · by_cases e : r = q
    · exact .inr e
    · exact .inl (hall r (by omega))
  · rcases h4 with h4 | h4
    · exact v.noe r i' o' it' (by omega) h2 h3 h4
    · omega
  · rw [st.frame B (Nat.lt_of_lt_of_le hB v.size) fun b o' hb e => ?_]
    · exact v.frame B hB hn
    · rcases b2 b o' hb with h | ⟨c', o'', h1, h2⟩
      · omega
      · exact hn c' o'' h1 (h2 ▸ e)
  · rcases st.img b o' hb with h | ⟨c', o'', h1, h2⟩
    · exact .inl (Nat.le_trans v.size h)
    · rw [h2]; exact b2 c' o'' h1
  · have h1 := v.agree x hx
    have h2 := st.agree x (by
      rcases hx with hx | hx
      · left; show x.toNat < nx σ q; omega
      · right; show nx σ (q + 1) ≤ x.toNat; omega)
    exact ⟨h2.1.trans h1.1, h2.2.1.trans h1.2.1, h2.2.2.trans h1.2.2⟩
  · have h2 : E r := h2.resolve_right (by omega)
    rw [late r h1 h2 _ rfl]
    exact Nat.lt_of_lt_of_le (v.skp r (by omega) h2 h3) st.size
  · have h2 : E r := h2.resolve_right (by omega)
    obtain ⟨n1, n2, n3, n4, n5⟩ := v.new r ob (by omega) h2 h3
    rw [late r h1 h2 _ rfl]
    refine ⟨n1.keep ⟨?_, ?_⟩ (hagq r) (hsub r) (st.frame _ n3 fun b o' hb => b3 b o' hb r ob (by omega) h2 h3), n2, Nat.lt_of_lt_of_le n3 st.size, fun b o' hb => ?_, fun s ob' s1 s2 s3 s4 => ?_⟩
    · obtain ⟨i', o', it', hh'⟩ := c.here (v.lt r h2)
      have hk' : it'.kd ≠ .eff := fun hk' => v.noe r i' o' it' (by omega) hh' hk' h2
      unfold nx; rw [kf.app r i' o' it' (v.lt r h2) hh' hk', ap_next, h3]; simp only; omega
    · refine .inr ⟨r, by omega, h2, Nat.le_refl _, ?_⟩
      obtain ⟨i', o', it', hh'⟩ := c.here (v.lt r h2)
      have hk' : it'.kd ≠ .eff := fun hk' => v.noe r i' o' it' (by omega) hh' hk' h2
      unfold nx; rw [kf.app r i' o' it' (v.lt r h2) hh' hk', ap_next, h3]; simp only; omega
    · rcases st.img b o' hb with h | ⟨c', o'', g1, g2⟩
      · omega
      · rw [g2]; exact b3 c' o'' g1 r ob (by omega) h2 h3
    · have s2 : E s := s2.resolve_right (by omega)
      rw [late s s1 s2 _ rfl]
      exact n5 s ob' (by omega) s2 s3 s4
  · by_cases e : r = q
    · subst e
      obtain ⟨_, e2, _⟩ := hh.same h2
      subst e2
      refine ⟨ok_mono (fun x hx => ⟨hx, .inl hx⟩) hv, fun t ht => ?_⟩
      rcases dst_spec hh.f.dst with ⟨e1, _⟩ | ⟨t', e1, hlt, _⟩
      · rw [ht] at e1; cases e1
      · rw [ht] at e1; injection e1 with e1; subst e1
        rw [ht]; exact eval_put_eq (by omega)
    · have hEr : E r := h1.resolve_right e
      obtain ⟨w1, w2⟩ := v.reg r i' o' it' hEr h2
      refine ⟨ok_agree (hagq r) (hsub r) _ w1, fun t ht => ?_⟩
      have hne : i' ≠ i := fun e' => by subst e'; exact e (pos_inj c.pf h2.idx hh.idx)
      have hd := (tmps_spec hh.f.tmp hne h2.f.op ht).1
      rw [eval_put_ne hd, w2 t ht, conc_agree (hagq r) _ w1]
  · rw [eval_put_ne (ht q i o it (.inr rfl) hh)]
    exact v.reg0 t fun r i' o' it' hr hh' => ht r i' o' it' (.inl hr) hh'
  · rw [Act.put_size]; exact v.asize
  · rw [Act.put_defs]; exact v.adefs
/-- up to a place that everything has run to, it is a step -/
theorem Inv.step (c : CR' P call n ops anc is l L σ val t0 h0) (kf : KF P call n ops anc is l L σ val K) (v : Inv P call n ops anc is l L σ val h0 K θ0 W0 a0 E p θ W a)
    (hall : ∀ r, r < L → E r) : Step θ0 h0 W0 θ (σ L).g W := by
  obtain ⟨b1, b2, b3⟩ := v.absorb c kf L v.pL (Nat.le_refl _) hall
  have e0 := c.zero_nx
  have m0 : nx σ 0 ≤ nx σ L := nx_mono c kf L (by omega) (Nat.le_refl _)
  exact ⟨b1, by show h0.next.toNat ≤ nx σ L; omega, fun x hx => v.agree x hx, v.size, v.frame, b2, v.os, v.out⟩
end

/-! ### Equal values -/
theorem sameK_eq' {j k : IntKind} (h : sameK j k = true) : j = k := by cases j <;> cases k <;> first | rfl | cases h
theorem eqI_eq' {a b : Int} (h : eqI a b = true) : a = b := by
  cases a <;> cases b <;> simp only [eqI, Bool.false_eq_true] at h
  · rw [Nat.eq_of_beq_eq_true h]
  · rw [Nat.eq_of_beq_eq_true h]
mutual
theorem beqA_eq : ∀ (a b : AV), beqA a b = true → a = b := by
  intro a b h
  cases a <;> cases b <;> try (first | rfl | (exfalso; revert h; simp [beqA]; done))
  case bool.bool => simp only [beqA] at h; rw [eq_of_beq h]
  case int.int => simp only [beqA, Bool.and_eq_true] at h; obtain ⟨h1, h2⟩ := h; rw [sameK_eq' h1, eqI_eq' h2]
  case str.str s t =>
    simp only [beqA] at h
    have := eq_of_beq h
    rw [show s = t from by
      have h2 : s.data.toList = t.data.toList := this
      exact ByteArray.ext (Array.ext' h2)]
  case ptr.ptr => simp only [beqA, Bool.and_eq_true] at h; obtain ⟨h1, h2⟩ := h; rw [of_decide_eq_true h1, Nat.eq_of_beq_eq_true h2]
  case sl.sl a i l c b j m d =>
    cases c <;> cases d <;> simp only [beqA, Bool.false_eq_true, Bool.and_eq_true] at h
    · obtain ⟨⟨⟨h1, h2⟩, h3⟩, h4⟩ := h
      rw [of_decide_eq_true h1, Nat.eq_of_beq_eq_true h2, Nat.eq_of_beq_eq_true h3, Nat.eq_of_beq_eq_true h4]
    · obtain ⟨⟨⟨h1, h2⟩, h3⟩, h4⟩ := h
      rw [of_decide_eq_true h1, Nat.eq_of_beq_eq_true h2, Nat.eq_of_beq_eq_true h3, Nat.eq_of_beq_eq_true h4]
  case mp.mp => simp only [beqA] at h; rw [of_decide_eq_true h]
  case fn.fn => simp only [beqA, Bool.and_eq_true] at h; obtain ⟨⟨h1, h2⟩, h3⟩ := h; rw [Nat.eq_of_beq_eq_true h1, beqAs_eq _ _ h2, beqAs_eq _ _ h3]
  case ifc.ifc => simp only [beqA, Bool.and_eq_true] at h; obtain ⟨h1, h2⟩ := h; rw [Nat.eq_of_beq_eq_true h1, beqA_eq _ _ h2]
  case agg.agg => simp only [beqA] at h; rw [beqAs_eq _ _ h]
  case tup.tup => simp only [beqA] at h; rw [beqAs_eq _ _ h]
theorem beqAs_eq : ∀ (a b : List AV), beqAs a b = true → a = b := by
  intro a b h
  cases a <;> cases b <;> simp only [beqAs, Bool.false_eq_true, Bool.and_eq_true] at h
  · rfl
  · obtain ⟨h1, h2⟩ := h; rw [beqA_eq _ _ h1, beqAs_eq _ _ h2]
end
theorem sameAll_spec {f : OpF} {t : Regs} {v : AV} : ∀ {hs : List AHeap}, sameAll f t v hs = true → ∀ h ∈ hs, ∃ h', f t h = .val v h'
  | [], _, h, hm => by simp at hm
  | g :: hs, hh, h, hm => by
    simp only [sameAll] at hh
    split at hh
    · rename_i w h' hf
      simp only [Bool.and_eq_true] at hh
      simp only [List.mem_cons] at hm
      rcases hm with rfl | hm
      · rw [beqA_eq _ _ hh.1]; exact ⟨h', hf⟩
      · exact sameAll_spec hh.2 h hm
    · cases hh
theorem takeL_mem : ∀ (m : Nat) (hs : List AHeap) (k : Nat) (h : AHeap), k < m → hs[k]? = some h → h ∈ takeL m hs
  | 0, _, _, _, hk, _ => by omega
  | m + 1, [], k, h, _, hh => by simp at hh
  | m + 1, g :: hs, 0, h, _, hh => by simp at hh; subst hh; simp [takeL]
  | m + 1, g :: hs, k + 1, h, hk, hh => by
    simp only [List.getElem?_cons_succ] at hh
    simp only [takeL, List.mem_cons]
    exact .inr (takeL_mem m hs k h (by omega) hh)
theorem want_same {n : Nat} {ops : List Oper} {o : Oper} {g : Option (Dst × Bool)} {T T' : Regs} (hg : guardOf n ops o.guard = some g) (h : ∀ t, t ∈ Oper.looksAt ⟨ops⟩ o → T.at (ptOf t) = T'.at (ptOf t)) : wantG g T = wantG g T' := by
  unfold guardOf at hg
  cases hgo : o.guard with
  | none =>
    rw [hgo] at hg
    simp only [Option.some.injEq] at hg
    subst hg; rfl
  | some pr =>
    obtain ⟨j, want⟩ := pr
    rw [hgo] at hg
    simp only [nthF_eq] at hg
    split at hg
    · rename_i q hq
      split at hg
      · rename_i bb hd
        injection hg with hg; subst hg
        rcases dst_spec hd with ⟨_, e⟩ | ⟨t, e1, hlt, e2⟩
        · cases e
        · injection e2 with e2
          subst e2
          have : T.at (ptOf t) = T'.at (ptOf t) := h t (by
            unfold Oper.looksAt
            rw [hgo]
            simp [hq, e1])
          simp only [wantG, this]
      · cases hg
    · cases hg
theorem looks_same {ops : List Oper} {o : Oper} {T T' : Regs} (h : ∀ t, t ∈ Oper.looksAt ⟨ops⟩ o → T.at (ptOf t) = T'.at (ptOf t)) : Same o.op.operands.toList T T' := fun t ht => h t (by
  unfold Oper.looksAt
  exact List.mem_append_left _ (List.mem_filterMap.2 ⟨.tmp t, ht, rfl⟩))
end Go.Eng
namespace Go.Eng
variable {P : Program}
section
variable {call : CallF} {n : Nat} {ops : List Oper} {anc is : List Nat} {l : List It} {L : Nat} {σ : Nat → St} {val : Nat → AV} {t0 : Regs} {h0 : AHeap}
/-- what is known of a making operation -/
def AKind (P : Program) (o : Oper) (T : Regs) (v : AV) (x : Pt) : Option (Option AObj) → Prop
  | none => ∀ θ D W ρ, AHyp T θ D W ρ → v.ok θ D ∧ (execOp ρ o).run P W = .ok (.value (v.conc θ)) W
  | some none => ∀ θ D W ρ, AHyp T θ D W ρ → ¬ D x → ∃ blk base cap, blk < W.heap.size ∧ v.ok (θ.set x blk base cap) (Dp D x) ∧ (execOp ρ o).run P W = .ok (.value (v.conc (θ.set x blk base cap))) W
  | some (some ob) => ∀ θ D W ρ, AHyp T θ D W ρ → ¬ D x → ∃ o' cap, v.ok (θ.set x W.heap.size 0 cap) (Dp D x) ∧ ObjR (θ.set x W.heap.size 0 cap) (Dp D x) x (W.alloc o') ob ∧
      (execOp ρ o).run P W = .ok (.value (v.conc (θ.set x W.heap.size 0 cap))) (W.alloc o')
theorem look_same {q i : Nat} {o : Oper} {it : It} (f : ItF P n ops anc i (dones (is.take q) 0) (effsOf ops (is.take q) []) (is.drop (q + 1)) o it) (T : Regs) (H : AHeap) : it.f T H = it.f (pickR T (Oper.looksAt ⟨ops⟩ o)) H :=
  prep_same f.f (looks_same (ops := ops) fun t ht => by rw [pickR_at, if_pos ht]) H
theorem look_want {q i : Nat} {o : Oper} {it : It} (f : ItF P n ops anc i (dones (is.take q) 0) (effsOf ops (is.take q) []) (is.drop (q + 1)) o it) (T : Regs) : wantG it.g (pickR T (Oper.looksAt ⟨ops⟩ o)) = wantG it.g T :=
  want_same f.g fun t ht => by rw [pickR_at, if_pos ht]
theorem exists_K (c : CR' P call n ops anc is l L σ val t0 h0) : ∃ K, KF P call n ops anc is l L σ val K ∧ ∀ q i o it, q < L → Here P call n ops anc is l σ val q i o it → it.kd = .alloc → wantG it.g (σ q).t = some true →
    AKind P o (pickR (σ q).t (Oper.looksAt ⟨ops⟩ o)) (val q) (σ q).g.next (K q) := by
  have key : ∀ q, ∃ k, ∀ i o it, q < L → Here P call n ops anc is l σ val q i o it → it.kd ≠ .eff → (σ (q + 1)).g = ap k (σ q).g ∧ (it.kd = .alloc → wantG it.g (σ q).t = some true →
      AKind P o (pickR (σ q).t (Oper.looksAt ⟨ops⟩ o)) (val q) (σ q).g.next k) := by
    intro q
    by_cases hex : ∃ i o it, q < L ∧ Here P call n ops anc is l σ val q i o it ∧ it.kd ≠ .eff
    · obtain ⟨i, o, it, hq, hh, hk⟩ := hex
      have fin : ∀ k, ((σ (q + 1)).g = ap k (σ q).g ∧ (it.kd = .alloc → wantG it.g (σ q).t = some true → AKind P o (pickR (σ q).t (Oper.looksAt ⟨ops⟩ o)) (val q) (σ q).g.next k)) →
          ∃ k, ∀ i o it, q < L → Here P call n ops anc is l σ val q i o it → it.kd ≠ .eff → (σ (q + 1)).g = ap k (σ q).g ∧ (it.kd = .alloc → wantG it.g (σ q).t = some true →
            AKind P o (pickR (σ q).t (Oper.looksAt ⟨ops⟩ o)) (val q) (σ q).g.next k) := fun k hk2 => ⟨k, fun i' o' it' _ hh' _ => by
        obtain ⟨e1, e2, e3⟩ := hh.same hh'
        subst e1 e2 e3
        exact hk2⟩
      have hsp := hh.sp
      generalize hv : val q = v at hsp
      generalize hs : σ (q + 1) = s' at hsp
      rw [hs, hv] at fin
      cases hsp with
      | no hw hk' => exact fin none ⟨rfl, fun _ hw' => by rw [hw] at hw'; cases hw'⟩
      | read hw hk' hf hsa => exact fin none ⟨rfl, fun ha _ => by rw [hk'] at ha; cases ha⟩
      | alloc hw hk' hf =>
        have has := (prep_spec hh.f.f).toAS (by rw [hh.f.kd, hk'])
        rw [look_same hh.f] at hf
        rcases has (pickR (σ q).t (Oper.looksAt ⟨ops⟩ o)) with e | ⟨u, e, k⟩ | ⟨u, e, k⟩ | ⟨u, ob, e, k⟩
        · rw [e] at hf; cases hf
        · rw [e] at hf; injection hf with h1 h2; subst h1 h2
          exact fin none ⟨rfl, fun _ _ => k⟩
        · rw [e] at hf; injection hf with h1 h2; subst h1 h2
          exact fin (some none) ⟨rfl, fun _ _ => fun θ D W ρ ha hn => k θ D W ρ _ ha hn⟩
        · rw [e] at hf; injection hf with h1 h2; subst h1 h2
          exact fin (some (some ob)) ⟨rfl, fun _ _ => fun θ D W ρ ha hn => k θ D W ρ _ ha hn⟩
      | noEff hw hk' => exact absurd hk' hk
      | val hw hk' => exact absurd hk' hk
      | skip hw hk' => exact absurd hk' hk
      | call hw hk' => exact absurd hk' hk
    · exact ⟨none, fun i o it h1 h2 h3 => absurd ⟨i, o, it, h1, h2, h3⟩ hex⟩
  obtain ⟨K, hK⟩ := Classical.axiomOfChoice key
  exact ⟨K, ⟨fun q i o it h1 h2 h3 => (hK q i o it h1 h2 h3).1⟩, fun q i o it h1 h2 h3 h4 => (hK q i o it h1 h2 (by rw [h3]; simp)).2 h3 h4⟩

variable {K : Nat → Option (Option AObj)} {θ0 : Env} {W0 : World} {a0 : Act} {ds : Defs} {E : Nat → Prop} {p : Nat} {θ : Env} {W : World} {a : Act}
theorem K_none (kf : KF P call n ops anc is l L σ val K) {q i : Nat} {o : Oper} {it : It} (hq : q < L) (hh : Here P call n ops anc is l σ val q i o it) (hk : it.kd ≠ .eff) (he : (σ (q + 1)).g = (σ q).g) : K q = none := by
  have := kf.app q i o it hq hh hk
  rw [he] at this
  have h2 := congrArg (fun g => g.next.toNat) this
  simp only [ap_next] at h2
  cases hK : K q with
  | none => rfl
  | some k => rw [hK] at h2; simp only at h2; omega
/-- one ready operation -/
theorem Inv.op (c : CR' P call n ops anc is l L σ val t0 h0) (kf : KF P call n ops anc is l L σ val K)
    (ka : ∀ q i o it, q < L → Here P call n ops anc is l σ val q i o it → it.kd = .alloc → wantG it.g (σ q).t = some true → AKind P o (pickR (σ q).t (Oper.looksAt ⟨ops⟩ o)) (val q) (σ q).g.next (K q))
    (hcall : CallOK P call) (ha0 : ActR P n θ0 h0 t0 ds a0) (v : Inv P call n ops anc is l L σ val h0 K θ0 W0 a0 E p θ W a)
    {q i : Nat} {o : Oper} {it : It} (hq : q < L) (hE : ¬ E q) (hh : Here P call n ops anc is l σ val q i o it) (h1 : ∀ r k, is[r]? = some k → Anc anc i k → E r) (h2 : ∀ r k, E r → is[r]? = some k → ¬ Anc anc k i)
    {Q : Exit → Act → World → Prop} {K' : Act → World → Prop} (hK' : ∀ p' θ' W' a', Inv P call n ops anc is l L σ val h0 K θ0 W0 a0 (fun r => E r ∨ r = q) p' θ' W' a' → K' a' W') : wpOp P ⟨ops⟩ Q i K' a W := by
  have hpq : p ≤ q := by
    by_cases h : p ≤ q
    · exact h
    · exact absurd (v.bef q (by omega)) hE
  have hrel := v.rel c kf ha0 (by omega : q ≤ L) hpq hE hh.idx hh.f.op hh.f.tmp h1 h2
  have hn : n ≤ a.tmps.size := by rw [v.asize]; exact ha0.size
  have hps := prep_spec hh.f.f
  have hop : (⟨ops⟩ : Array Oper)[i]? = some o := by simpa using hh.f.op
  unfold wpOp
  rw [hop]
  simp only
  have hwant : ∀ b, wantG it.g (σ q).t = some b → Region.wanted o (yielded ⟨ops⟩ a.tmps) = b := fun b hb => want_spec hrel hn hh.f.g (by rw [look_want hh.f]; exact hb)
  have hall : it.kd = .eff → ∀ r, r < q → E r := fun hk r hr => by
    have hlt : r < is.length := by have := c.le; rw [c.pf.len] at this; omega
    exact h1 r is[r] (List.getElem?_eq_getElem hlt) (hh.f.eff ((isEff_kd hh.f.kd).2 hk) is[r] ((bit_take q _).2 ⟨r, hr, List.getElem?_eq_getElem hlt⟩))
  have hsp := hh.sp
  generalize hv : val q = u at hsp
  generalize hs : σ (q + 1) = s' at hsp
  have put_undef : (a.put o.dst undef) = a.put o.dst (undefA.conc θ) := rfl
  have hrelg : it.kd = .eff → HR θ (σ q).g W ∧ RelR θ (σ q).g.D (pickR (σ q).t (Oper.looksAt ⟨ops⟩ o)) a.eval := fun hk =>
    ⟨(v.absorb c kf q hpq (by omega) (hall hk)).1, hrel.mono (Agree.refl _ _) fun x hx => hx.1⟩
  cases hsp with
  | no hw hk =>
    rw [hwant false hw, if_neg (by simp), put_undef]
    have hKn := K_none kf hq hh hk (by rw [hs])
    refine hK' p θ W _ ?_
    have := v.non c kf ha0 hq hpq hE hh hk (θ' := θ) (W' := W) (fun x _ => ⟨rfl, rfl, rfl⟩) (fun _ _ => rfl) (Nat.le_refl _) rfl rfl (by rw [hv]; trivial) (fun h => by rw [hKn] at h; cases h) (fun ob h => by rw [hKn] at h; cases h)
    rw [hv] at this
    exact this
  | noEff hw hk =>
    rw [hwant false hw, if_neg (by simp), put_undef]
    refine hK' (q + 1) θ W _ ?_
    have := v.eff c kf ha0 hq hpq hE (hall hk) hh hk (θ' := θ) (W' := W) (by rw [hs]; exact Step.refl (hrelg hk).1) (by rw [hv]; trivial)
    rw [hv] at this
    exact this
  | read hw hk hf hsa =>
    rw [hwant true hw, if_pos rfl]
    left
    have hls := hps.toLS (by rw [hh.f.kd, hk])
    have hne : it.kd ≠ .eff := by rw [hk]; simp
    have hKn := K_none kf hq hh hne (by rw [hs])
    have mq := nx_mono c kf q hpq (by omega)
    -- the value in the memory that is there
    have hval : ∃ h', it.f (σ q).t (σ p).g = .val u h' := by
      rw [← v.hg]
      obtain ⟨m1, m2⟩ := c.mems (p := p) q hpq (by omega)
      rcases m2 with ⟨_, m2⟩ | ⟨m2, m3⟩
      · rw [← m2]; exact ⟨_, hf⟩
      · refine sameAll_spec hsa _ (takeL_mem _ _ ((σ q).j - (σ p).j - 1) _ ?_ m3)
        -- lo ≤ j
        obtain ⟨l1, l2⟩ := c.effs q (by omega)
        have hlo : it.lo ≤ (σ p).j := by
          rcases hh.f.lo with h | ⟨e, g1, g2, g3⟩
          · omega
          · by_cases hz : it.lo = 0
            · omega
            · rw [l1] at g1 g2
              obtain ⟨r, i', o', it', w1, w2, w3, w4, w5⟩ := l2 it.lo e (by omega) g2 g1
              have hEr := h1 r e (by rw [← w3]; exact w2.idx) g3
              have hrp : r < p := by
                by_cases h : r < p
                · exact h
                · exact absurd hEr (v.noe r i' o' it' (by omega) w2 w4)
              have := (c.mems (p := r + 1) p (by omega) v.pL).1
              rw [(w2.eff_g w4).2.1] at this
              omega
        omega
    obtain ⟨h', hval⟩ := hval
    rw [look_same hh.f] at hval
    rcases hls _ (σ p).g θ _ W a.eval v.hr (fun x hx => ⟨Nat.lt_of_lt_of_le hx mq, .inl hx⟩) hrel with e | ⟨u', e, ok, hrun⟩
    · rw [e] at hval; cases hval
    · rw [e] at hval
      injection hval with e1 e2
      subst e1
      unfold Oper.wp
      rw [hrun]
      refine hK' p θ W _ ?_
      have := v.non c kf ha0 hq hpq hE hh hne (θ' := θ) (W' := W) (fun x _ => ⟨rfl, rfl, rfl⟩) (fun _ _ => rfl) (Nat.le_refl _) rfl rfl
        (by rw [hv]; exact ok_mono (fun x hx => ⟨Nat.lt_of_lt_of_le hx.1 (nx_step c kf hq), Asg.mono (fun _ h => .inl h) hx.2⟩) ok) (fun h => by rw [hKn] at h; cases h) (fun ob h => by rw [hKn] at h; cases h)
      rw [hv] at this
      exact this
  | alloc hw hk hf =>
    rw [hwant true hw, if_pos rfl]
    left
    have hne : it.kd ≠ .eff := by rw [hk]; simp
    have hak := ka q i o it hq hh hk hw
    have hblk : ∀ x, (x.toNat < nx σ q ∧ Asg σ E p x) → θ.blk x < W.heap.size := fun x hx => by
      rcases hx.2 with h | ⟨r, r1, r2, r3, r4⟩
      · exact v.hr.low x h
      · obtain ⟨i', o', it', hh'⟩ := c.here (v.lt r r2)
        have hk' : it'.kd ≠ .eff := fun hk' => v.noe r i' o' it' r1 hh' hk' r2
        have happ := kf.app r i' o' it' (v.lt r r2) hh' hk'
        have hn2 : nx σ (r + 1) = match K r with | none => nx σ r | some _ => nx σ r + 1 := by unfold nx; rw [happ, ap_next] <;> (cases K r <;> rfl)
        cases hKr : K r with
        | none => rw [hKr] at hn2; simp only at hn2; omega
        | some kk =>
          rw [hKr] at hn2
          simp only at hn2
          have ex : x = (σ r).g.next := Pt.toNat_inj (by show x.toNat = nx σ r; omega)
          subst ex
          cases kk with
          | none => exact v.skp r r1 r2 hKr
          | some ob => exact (v.new r ob r1 r2 hKr).2.2.1
    have hyp : AHyp (pickR (σ q).t (Oper.looksAt ⟨ops⟩ o)) θ (fun x => x.toNat < nx σ q ∧ Asg σ E p x) W a.eval := ⟨hrel, hblk⟩
    have hnD : ¬ ((σ q).g.next.toNat < nx σ q ∧ Asg σ E p (σ q).g.next) := fun h => Nat.lt_irrefl _ h.1
    have happ := kf.app q i o it hq hh hne
    have hnx : nx σ (q + 1) = match K q with | none => nx σ q | some _ => nx σ q + 1 := by unfold nx; rw [happ, ap_next] <;> (cases K q <;> rfl)
    have hDp : K q ≠ none → ∀ x, Dp (fun x => x.toNat < nx σ q ∧ Asg σ E p x) (σ q).g.next x → Dq σ (fun r => E r ∨ r = q) p q x := fun hKne x hx => by
      have hnx2 : nx σ (q + 1) = nx σ q + 1 := by
        cases hK : K q with
        | none => exact absurd hK hKne
        | some _ => rw [hK] at hnx; exact hnx
      rcases hx with hx | hx
      · exact ⟨by have := hx.1; omega, Asg.mono (fun _ h => .inl h) hx.2⟩
      · subst hx
        refine ⟨by show nx σ q < _; omega, .inr ⟨q, hpq, .inr rfl, Nat.le_refl _, by show nx σ q < _; omega⟩⟩
    unfold Oper.wp
    cases hKq : K q with
    | none =>
      rw [hKq] at hak
      obtain ⟨w1, w2⟩ := hak θ _ W a.eval hyp
      rw [w2]
      refine hK' p θ W _ ?_
      exact v.non c kf ha0 hq hpq hE hh hne (θ' := θ) (W' := W) (fun x _ => ⟨rfl, rfl, rfl⟩) (fun _ _ => rfl) (Nat.le_refl _) rfl rfl
        (ok_mono (fun x hx => ⟨Nat.lt_of_lt_of_le hx.1 (nx_step c kf hq), Asg.mono (fun _ h => .inl h) hx.2⟩) w1) (fun h => by rw [hKq] at h; cases h) (fun ob h => by rw [hKq] at h; cases h)
    | some kk =>
      have hKne : K q ≠ none := by rw [hKq]; simp
      cases kk with
      | none =>
        rw [hKq] at hak
        obtain ⟨blk, base, cap, w1, w2, w3⟩ := hak θ _ W a.eval hyp hnD
        rw [w3]
        refine hK' p (θ.set (σ q).g.next blk base cap) W _ ?_
        exact v.non c kf ha0 hq hpq hE hh hne (fun x hx => Env.set_ne (hx.resolve_left hKne)) (fun _ _ => rfl) (Nat.le_refl _) rfl rfl
          (ok_mono (hDp hKne) w2) (fun _ => by rw [Env.set_same.1]; exact w1) (fun ob h => by rw [hKq] at h; cases h)
      | some ob =>
        rw [hKq] at hak
        obtain ⟨o', cap, w1, w2, w3⟩ := hak θ _ W a.eval hyp hnD
        rw [w3]
        refine hK' p (θ.set (σ q).g.next W.heap.size 0 cap) (W.alloc o') _ ?_
        exact v.non c kf ha0 hq hpq hE hh hne (fun x hx => Env.set_ne (hx.resolve_left hKne)) (fun B hB => walloc_old hB) (by simp) rfl rfl
          (ok_mono (hDp hKne) w1) (fun h => by rw [hKq] at h; cases h) (fun ob' h => by
            rw [hKq] at h; injection h with h; injection h with h; subst h
            refine ⟨w2.keep (.inr rfl) (Agree.refl _ _) (hDp hKne) rfl, by rw [Env.set_same.1]; exact Nat.le_refl _, by rw [Env.set_same.1]; simp⟩)
  | val hw hk hf hg =>
    rw [hwant true hw, if_pos rfl]
    left
    obtain ⟨g1, g2⟩ := hrelg hk
    rw [look_same hh.f] at hf
    have he := hps.toES _ (σ q).g θ W a.eval g1 g2
    rw [hf] at he
    unfold Oper.wp
    cases he with
    | @val _ _ θ' W1 run st hok =>
      rw [run]
      refine hK' (q + 1) θ' W1 _ ?_
      have := v.eff c kf ha0 hq hpq hE (hall hk) hh hk (by rw [hs]; exact st) (by rw [hv, hs]; exact hok)
      rw [hv] at this
      exact this
  | skip hw hk hf hg =>
    rw [hwant true hw, if_pos rfl]
    left
    obtain ⟨g1, g2⟩ := hrelg hk
    rw [look_same hh.f] at hf
    have he := hps.toES _ (σ q).g θ W a.eval g1 g2
    rw [hf] at he
    unfold Oper.wp
    cases he with
    | @skip _ θ' W1 run st =>
      rw [run]
      refine hK' (q + 1) θ' W1 _ ?_
      have := v.eff c kf ha0 hq hpq hE (hall hk) hh hk (by rw [hs]; exact st) (by rw [hv]; trivial)
      rw [hv] at this
      exact this
  | call hw hk hf hc hg =>
    rename_i gf gargs gg1 gg
    rw [hwant true hw, if_pos rfl]
    left
    obtain ⟨g1, g2⟩ := hrelg hk
    rw [look_same hh.f] at hf
    have he := hps.toES _ (σ q).g θ W a.eval g1 g2
    rw [hf] at he
    unfold Oper.wp
    cases he with
    | call run hargs =>
      rw [run, Oper.upon_enter]
      have hcc := hcall gf gargs (σ q).g θ W g1 hargs
      rw [hc] at hcc
      refine Calls.mono hcc fun e W' ⟨θ', st, hok, hee⟩ => ?_
      subst hee
      refine hK' (q + 1) θ' W' _ ?_
      have := v.eff c kf ha0 hq hpq hE (hall hk) hh hk (by rw [hs]; exact st) (by rw [hv, hs]; exact hok)
      rw [hv] at this
      exact this
end
end Go.Eng
namespace Go.Eng
variable {P : Program}
theorem count_set (f g : Nat → Bool) (i : Nat) (hi : f i = true) (hg : g i = false) (hne : ∀ j, j ≠ i → g j = f j) : ∀ m, (List.range m).countP g + (if i < m then 1 else 0) = (List.range m).countP f
  | 0 => by simp
  | m + 1 => by
    have ih := count_set f g i hi hg hne m
    rw [List.range_succ, List.countP_append, List.countP_append]
    simp only [List.countP_singleton]
    by_cases h : m = i
    · subst h
      rw [hi, hg]
      simp at ih ⊢
      omega
    · rw [hne m h]
      by_cases h1 : i < m
      · rw [if_pos h1] at ih; rw [if_pos (show i < m + 1 by omega)]; omega
      · rw [if_neg h1] at ih; rw [if_neg (show ¬ i < m + 1 by omega)]; omega
section
variable {call : CallF} {n : Nat} {ops : List Oper} {anc is : List Nat} {l : List It} {L : Nat} {σ : Nat → St} {val : Nat → AV} {t0 : Regs} {h0 : AHeap}
variable {K : Nat → Option (Option AObj)} {θ0 : Env} {W0 : World} {a0 : Act} {ds : Defs} {E : Nat → Prop} {p : Nat} {θ : Env} {W : World} {a : Act}
theorem Inv.act (c : CR' P call n ops anc is l L σ val t0 h0) (kf : KF P call n ops anc is l L σ val K) (hr0 : HR θ0 h0 W0) (ha0 : ActR P n θ0 h0 t0 ds a0) (v : Inv P call n ops anc is l L σ val h0 K θ0 W0 a0 E p θ W a)
    (h1 : ∀ r, r < L → E r) : ActR P n θ (σ L).g (σ L).t ds a :=
  ⟨v.full c kf ha0 (Nat.le_refl _) h1 v.lt, by rw [v.asize]; exact ha0.size, by
    rw [v.adefs]
    have st := v.step c kf h1
    exact ha0.defs.mono st.ag fun _ hp => Nat.lt_of_lt_of_le hp st.le⟩
/-- the operation that panics -/
theorem Inv.pan (c : CR' P call n ops anc is l L σ val t0 h0) (kf : KF P call n ops anc is l L σ val K) (hcall : CallOK P call) (hr0 : HR θ0 h0 W0) (ha0 : ActR P n θ0 h0 t0 ds a0)
    (v : Inv P call n ops anc is l L σ val h0 K θ0 W0 a0 E p θ W a) {i : Nat} {o : Oper} {it : It} (hi : is[L]? = some i) (f : ItF P n ops anc i (dones (is.take L) 0) (effsOf ops (is.take L) []) (is.drop (L + 1)) o it)
    {u : AV} {g : AHeap} (hp : Pn call it (σ L) u g) (h1 : ∀ r k, is[r]? = some k → Anc anc i k → E r) {Q : Exit → Act → World → Prop}
    (hQ : ∀ e a' W', XR P n θ0 h0 W0 (.panic u (σ L).t ds g) e a' W' → Q e a' W') {K' : Act → World → Prop} : wpOp P ⟨ops⟩ Q i K' a W := by
  have hk : it.kd = .eff := by cases hp <;> assumption
  have hall : ∀ r, r < L → E r := fun r hr => by
    have hlt : r < is.length := by
      have := (List.getElem?_eq_some_iff.1 hi).1; omega
    exact h1 r is[r] (List.getElem?_eq_getElem hlt) (f.eff ((isEff_kd f.kd).2 hk) is[r] ((bit_take L _).2 ⟨r, hr, List.getElem?_eq_getElem hlt⟩))
  have st0 := v.step c kf hall
  have hact := v.act c kf hr0 ha0 hall
  have hop : (⟨ops⟩ : Array Oper)[i]? = some o := by simpa using f.op
  have hw : wantG it.g (σ L).t = some true := by cases hp <;> assumption
  have hwant := want_spec hact.rel hact.size f.g hw
  have he := (prep_spec f.f).toES (σ L).t (σ L).g θ W a.eval st0.hr hact.rel
  unfold wpOp
  rw [hop]
  simp only
  rw [hwant, if_pos rfl]
  left
  unfold Oper.wp
  cases hp with
  | call _ _ _ hf hc =>
    rename_i gf gargs gg1 _ _ _
    rw [hf] at he
    cases he with
    | call run hargs =>
      rw [run, Oper.upon_enter]
      have hcc := hcall gf gargs (σ L).g θ W st0.hr hargs
      rw [hc] at hcc
      refine Calls.mono hcc fun e W' ⟨θ', st, hok, hee⟩ => ?_
      subst hee
      exact hQ _ _ _ ⟨θ', rfl, st0.trans st, hact.step st, hok⟩
  | panic _ _ _ hf =>
    rw [hf] at he
    cases he with
    | panic run hok =>
      rw [run]
      exact hQ _ _ _ ⟨θ, rfl, st0, hact, hok⟩
/-- what has been listed, by places -/
def LE (is : List Nat) (listed : Array Bool) (q : Nat) : Prop := ∃ i, is[q]? = some i ∧ listed.getD i false = true
def Closed (ops : List Oper) (listed : Array Bool) : Prop := ∀ i o, ops[i]? = some o → listed.getD i false = true → ∀ e ∈ o.after.toList, Region.binds .any e = true → listed.getD e.on false = true
theorem ready_mem {listed : Array Bool} {i : Nat} (hs : listed.size = ops.length) : i ∈ Region.ready .any ⟨ops⟩ listed ↔ i < ops.length ∧ listed.getD i false = false ∧ ∀ o, ops[i]? = some o → ∀ e ∈ o.after.toList, Region.binds .any e = true → listed.getD e.on false = true := by
  unfold Region.ready
  rw [List.mem_filter, List.mem_range]
  constructor
  · rintro ⟨h1, h2⟩
    have h1 : i < ops.length := h1
    simp only [Bool.and_eq_true] at h2
    obtain ⟨h2, h3⟩ := h2
    refine ⟨h1, ?_, fun o ho e he hb => ?_⟩
    · have e1 : listed.getD i true = listed.getD i false := by simp [Array.getD, hs, h1]
      rw [e1] at h2; simpa using h2
    · have : (⟨ops⟩ : Array Oper)[i]? = some o := by simpa using ho
      rw [this] at h3
      simp only [Option.map_some, Option.getD_some, ← Array.all_toList, List.all_eq_true] at h3
      have := h3 e he
      rw [hb] at this
      simpa using this
  · rintro ⟨h1, h2, h3⟩
    refine ⟨h1, ?_⟩
    simp only [Bool.and_eq_true]
    refine ⟨?_, ?_⟩
    · have e1 : listed.getD i true = listed.getD i false := by simp [Array.getD, hs, h1]
      rw [e1, h2]; rfl
    · have : (⟨ops⟩ : Array Oper)[i]? = some ops[i] := by simp [h1]
      rw [this]
      simp only [Option.map_some, Option.getD_some, ← Array.all_toList, List.all_eq_true]
      intro e he
      cases hb : Region.binds .any e with
      | false => rfl
      | true => rw [h3 ops[i] (by simp [h1]) e he hb]; rfl
theorem getD_set {listed : Array Bool} {i : Nat} (hi : i < listed.size) (j : Nat) : (listed.setIfInBounds i true).getD j false = if j = i then true else listed.getD j false := by
  by_cases h : j = i
  · subst h; simp [Array.getD, hi]
  · rw [if_neg h, Array.getD_eq_getD_getElem?, Array.getD_eq_getD_getElem?, Array.getElem?_setIfInBounds_ne (fun e => h e.symm)]
theorem draw_main (c : CR' P call n ops anc is l L σ val t0 h0) (kf : KF P call n ops anc is l L σ val K)
    (ka : ∀ q i o it, q < L → Here P call n ops anc is l σ val q i o it → it.kd = .alloc → wantG it.g (σ q).t = some true → AKind P o (pickR (σ q).t (Oper.looksAt ⟨ops⟩ o)) (val q) (σ q).g.next (K q))
    (hcall : CallOK P call) (hr0 : HR θ0 h0 W0) (ha0 : ActR P n θ0 h0 t0 ds a0) {r : X}
    (hres : (L = l.length ∧ r = .norm (σ L).t ds (σ L).g) ∨ ∃ i v g, l[L]? = some i ∧ Pn call i (σ L) v g ∧ r = .panic v (σ L).t ds g) {Q : Exit → Act → World → Prop}
    (hQ : ∀ e a' W', XR P n θ0 h0 W0 r e a' W' → Q e a' W') :
    ∀ (fuel : Nat) (listed : Array Bool) (p : Nat) (θ : Env) (W : World) (a : Act), listed.size = ops.length → Closed ops listed → Inv P call n ops anc is l L σ val h0 K θ0 W0 a0 (LE is listed) p θ W a →
      (List.range ops.length).countP (fun i => !listed.getD i false) ≤ fuel → wpAny P .any ⟨ops⟩ Q fuel listed a W := by
  -- where nothing is ready, all has run
  have fin : ∀ (listed : Array Bool) (p : Nat) (θ : Env) (W : World) (a : Act), listed.size = ops.length → Inv P call n ops anc is l L σ val h0 K θ0 W0 a0 (LE is listed) p θ W a → Region.ready .any ⟨ops⟩ listed = [] → Q .normal a W := by
    intro listed p θ W a hs v hnil
    have hall : ∀ (q i : Nat), is[q]? = some i → listed.getD i false = true := by
      intro q
      induction q using Nat.strongRecOn with
      | _ q ih =>
        intro i hi
        cases hb : listed.getD i false with
        | true => rfl
        | false =>
          obtain ⟨o, it, _, f⟩ := c.pf.itm q i hi
          have : i ∈ Region.ready .any ⟨ops⟩ listed := (ready_mem hs).2 ⟨idx_lt c.pf hi, hb, fun o' ho' e he hbd => by
            rw [f.op] at ho'; injection ho' with ho'; subst ho'
            obtain ⟨s, s1, s2⟩ := (bit_take q e.on).1 (f.dep e he hbd)
            exact ih s s1 e.on s2⟩
          rw [hnil] at this; cases this
    have hE : ∀ q, q < l.length → LE is listed q := fun q hq => by
      have hlt : q < is.length := by rw [← c.pf.len]; exact hq
      exact ⟨is[q], List.getElem?_eq_getElem hlt, hall q _ (List.getElem?_eq_getElem hlt)⟩
    have hL : L = l.length := by
      by_cases h : L < l.length
      · have := v.lt L (hE L h); omega
      · have := c.le; omega
    rcases hres with ⟨_, rfl⟩ | ⟨i, _, _, h1, _, _⟩
    · exact hQ _ _ _ ⟨rfl, θ, v.step c kf fun q hq => hE q (by omega), v.act c kf hr0 ha0 fun q hq => hE q (by omega)⟩
    · have := (List.getElem?_eq_some_iff.1 h1).1; omega
  intro fuel
  induction fuel with
  | zero =>
    intro listed p θ W a hs hcl v hcnt
    have hall : ∀ i, i < ops.length → listed.getD i false = true := fun i hi => by
      have h0 : (List.range ops.length).countP (fun i => !listed.getD i false) = 0 := by omega
      rw [List.countP_eq_zero] at h0
      simpa using h0 i (List.mem_range.2 hi)
    have hnil : Region.ready .any ⟨ops⟩ listed = [] := by
      cases hr : Region.ready .any ⟨ops⟩ listed with
      | nil => rfl
      | cons i rest =>
        have := (ready_mem (i := i) hs).1 (by rw [hr]; simp)
        rw [hall i this.1] at this
        cases this.2.1
    exact ⟨hnil, fin listed p θ W a hs v hnil⟩
  | succ fuel ih =>
    intro listed p θ W a hs hcl v hcnt
    refine ⟨fin listed p θ W a hs v, fun i hi => ?_⟩
    obtain ⟨hi1, hi2, hi3⟩ := (ready_mem hs).1 hi
    obtain ⟨q, hq⟩ := c.pf.all i hi1
    obtain ⟨o, it, hit, f⟩ := c.pf.itm q i hq
    have hE : ¬ LE is listed q := fun ⟨i', h1, h2⟩ => by
      rw [hq] at h1; injection h1 with h1; subst h1; rw [hi2] at h2; cases h2
    have h1 : ∀ r k, is[r]? = some k → Anc anc i k → LE is listed r := fun r k hr hk => by
      obtain ⟨x, _⟩ := anc_cl c.pf (X := fun k => listed.getD k false = true) hcl q i hq hi3 k hk
      exact ⟨k, hr, x⟩
    have h2 : ∀ r k, LE is listed r → is[r]? = some k → ¬ Anc anc k i := fun r k ⟨k', e1, e2⟩ hr hk => by
      rw [hr] at e1; injection e1 with e1; subst e1
      obtain ⟨x, _⟩ := anc_cl c.pf (X := fun k => listed.getD k false = true) hcl r k hr (fun o' ho' => hcl k o' ho' e2) i hk
      rw [hi2] at x; cases x
    have hlt : i < listed.size := by omega
    have hLE : (LE is (listed.setIfInBounds i true)) = fun r => LE is listed r ∨ r = q := by
      funext r
      apply propext
      constructor
      · rintro ⟨k, e1, e2⟩
        rw [getD_set hlt] at e2
        split at e2
        · rename_i e; subst e; exact .inr (pos_inj c.pf e1 hq)
        · exact .inl ⟨k, e1, e2⟩
      · rintro (⟨k, e1, e2⟩ | rfl)
        · exact ⟨k, e1, by rw [getD_set hlt]; split; rfl; exact e2⟩
        · exact ⟨i, hq, by rw [getD_set hlt, if_pos rfl]⟩
    have hK' : ∀ p' θ' W' a', Inv P call n ops anc is l L σ val h0 K θ0 W0 a0 (fun r => LE is listed r ∨ r = q) p' θ' W' a' → wpAny P .any ⟨ops⟩ Q fuel (listed.setIfInBounds i true) a' W' := by
      intro p' θ' W' a' v'
      refine ih (listed.setIfInBounds i true) p' θ' W' a' (by simpa using hs) (fun j oj hj hl e he hb => ?_) (by rw [hLE]; exact v') ?_
      · rw [getD_set hlt]
        split
        · rfl
        · rw [getD_set hlt] at hl
          split at hl
          · rename_i e'; subst e'; exact hi3 oj hj e he hb
          · exact hcl j oj hj hl e he hb
      · have := count_set (fun j => !listed.getD j false) (fun j => !(listed.setIfInBounds i true).getD j false) i (by rw [hi2]; rfl) (by rw [getD_set hlt, if_pos rfl]; rfl)
          (fun j hj => by simp only [getD_set hlt, if_neg hj]) ops.length
        rw [if_pos hi1] at this
        omega
    by_cases hqL : q < L
    · obtain ⟨i', o', it', hh⟩ := c.here hqL
      have e1 := hh.idx
      rw [hq] at e1; injection e1 with e1; subst e1
      exact v.op c kf ka hcall ha0 hqL hE hh h1 h2 (Q := Q) hK'
    · have hlen : q < l.length := by rw [c.pf.len]; exact (List.getElem?_eq_some_iff.1 hq).1
      rcases hres with ⟨e, _⟩ | ⟨it0, u, g, e1, e2, rfl⟩
      · omega
      · have hLlen : L < is.length := by rw [← c.pf.len]; exact (List.getElem?_eq_some_iff.1 e1).1
        obtain ⟨oL, itL, e3, fL⟩ := c.pf.itm L is[L] (List.getElem?_eq_getElem hLlen)
        rw [e1] at e3; injection e3 with e3; subst e3
        by_cases hqe : q = L
        · subst hqe
          rw [List.getElem?_eq_getElem hLlen] at hq
          injection hq with hq
          subst hq
          exact v.pan c kf hcall hr0 ha0 (List.getElem?_eq_getElem hLlen) fL e2 h1 hQ
        · exfalso
          have hlast : it0.last = true := by cases e2 <;> assumption
          have hmem : i ∈ is.drop (L + 1) := by
            rw [List.mem_iff_getElem?]
            exact ⟨q - (L + 1), by rw [List.getElem?_drop, show L + 1 + (q - (L + 1)) = q by omega]; exact hq⟩
          have := fL.last hlast i hmem
          have hx := h1 L is[L] (List.getElem?_eq_getElem hLlen) this
          have := v.lt L hx
          omega
end
theorem draw_ok (hm : P.follows .mixedOrders = true) {n id : Nat} {ops : Array Oper} {g : CodeF} (h : drawP P n ops.toList = .mk g) : CodeQ P n (.region id ops true) g := by
  intro call hcall t ds H θ W a hr ha hne Q hQ
  unfold drawP at h
  split at h
  · rename_i l hpl
    injection h with h; subst h
    refine wp_region_any hm ?_
    have pf := plan_pf hpl
    obtain ⟨L, σ, val, k1, k2, k3, k4⟩ := drawGo_run (call := call) (ds := ds) l ⟨t, 0, H, [], H⟩ hne
    have c : CR' P call n ops.toList (ancs ops.toList) (orderOf ops.toList) l L σ val t H := ⟨pf, k1, k2, k3⟩
    obtain ⟨K, kf, ka⟩ := exists_K c
    have hQ' : ∀ e a' W', XR P n θ H W.drew (drawGo call ds l t 0 H [] H) e a' W' → Q e a' W' := fun e a' W' hx => hQ e a' W' (by
      show XR P n θ H W (drawGo call ds l t 0 H [] H) e a' W'
      generalize drawGo call ds l t 0 H [] H = r at hx
      cases r with
      | fail => exact hx
      | norm => obtain ⟨x1, θ'', x2, x3⟩ := hx; exact ⟨x1, θ'', x2.undrew, x3⟩
      | exit => obtain ⟨x1, θ'', x2, x3⟩ := hx; exact ⟨x1, θ'', x2.undrew, x3⟩
      | ret => obtain ⟨x1, θ'', x2, x3⟩ := hx; exact ⟨x1, θ'', x2.undrew, x3⟩
      | panic => obtain ⟨θ'', x1, x2, x3, x4⟩ := hx; exact ⟨θ'', x1, x2.undrew, x3, x4⟩)
    have hLE : ∀ q, ¬ LE (orderOf ops.toList) (Array.replicate ops.size false) q := fun q ⟨i, _, e⟩ => by
      simp only [Array.getD_eq_getD_getElem?, Array.getElem?_replicate] at e
      split at e <;> cases e
    have hz := c.zero
    have hr1 : HR θ H W.drew := hr.drew
    refine draw_main c kf ka hcall (θ0 := θ) (W0 := W.drew) hr1 ha k4 hQ' ops.size (Array.replicate ops.size false) 0 θ W.drew a (by simp) (fun i o _ hl => ?_) ?_ ?_
    · simp only [Array.getD_eq_getD_getElem?, Array.getElem?_replicate] at hl
      split at hl <;> cases hl
    · refine ⟨Nat.zero_le _, fun q hq => absurd hq (Nat.not_lt_zero _), fun q hq => absurd hq (hLE q), fun q _ _ _ _ _ _ => hLE q, by rw [hz], by rw [hz]; exact hr1, Nat.le_refl _, fun _ _ _ => rfl, fun b o hb => .inr ⟨b, o, by rw [hz] at hb; exact hb, rfl⟩,
        fun _ _ => ⟨rfl, rfl, rfl⟩, rfl, rfl, fun q _ hq => absurd hq (hLE q), fun q _ _ hq => absurd hq (hLE q), fun q _ _ _ hq => absurd hq (hLE q), fun _ _ => rfl, rfl, rfl⟩
    · have := List.countP_le_length (l := List.range ops.toList.length) (p := fun i => !(Array.replicate ops.size false).getD i false)
      simpa using this
  · cases h
end Go.Eng
namespace Go.Eng
variable {P : Program}
def h00 : AHeap := ⟨.nil, .e⟩
def θ00 : Env := ⟨fun _ => 0, fun _ => 0, fun _ => 0⟩
theorem HR.none (θ : Env) (W : World) : HR θ h00 W := by
  have hg : ∀ b, h00.get b = Option.none := fun b => Q.at_nil b
  refine ⟨fun p hp => ?_, fun b o hb => ?_, fun b c o o' hb => ?_, fun b o hb => ?_⟩
  · have : p.toNat < 0 := hp
    omega
  · rw [hg] at hb; cases hb
  · rw [hg] at hb; cases hb
  · rw [hg] at hb; cases hb
/-- the evaluator's calls are the machine's -/
theorem engine (hm : P.follows .mixedOrders = true) {hook : Nat → Option (List AV → AHeap → CR)}
    (hhook : ∀ f k, hook f = some k → ∀ (args : List AV) (h : AHeap) (θ : Env) (W : World), HR θ h W → AV.oks θ h.D args → CallRes P f args θ h W (k args h)) (loops depth : Nat) : CallOK P (callA P hook loops depth) :=
  callA_ok (fun n c g hg => code_ok (fun id ops g h => draw_ok hm h) c g hg) hhook depth
/-- a memory that has only grown -/
structure Grown (W W' : World) : Prop where
  size : W.heap.size ≤ W'.heap.size
  kept : ∀ B, B < W.heap.size → W'.heap[B]? = W.heap[B]?
  os : W'.os = W.os
  out : W'.output = W.output
theorem engine_ret (hm : P.follows .mixedOrders = true) {hook : Nat → Option (List AV → AHeap → CR)}
    (hhook : ∀ f k, hook f = some k → ∀ (args : List AV) (h : AHeap) (θ : Env) (W : World), HR θ h W → AV.oks θ h.D args → CallRes P f args θ h W (k args h)) (loops depth : Nat) {f : Nat} {args : List AV} {v : AV} {h' : AHeap}
    (hrun : callA P hook loops depth f args h00 = .ret v h') (hargs : AV.oks θ00 h00.D args) (W : World) :
    Calls P f ⟨AV.concs θ00 args⟩ W fun e W' => Grown W W' ∧ ∃ θ', e = .returned (v.conc θ') := by
  have := engine hm hhook loops depth f args h00 θ00 W (HR.none _ _) hargs
  rw [hrun] at this
  refine Calls.mono this fun e W' ⟨θ', st, hv, he⟩ => ⟨⟨st.size, fun B hB => st.frame B hB fun b o hb => ?_, st.os, st.out⟩, θ', he⟩
  rw [show h00.get b = Option.none from Q.at_nil b] at hb; cases hb
end Go.Eng
namespace Go.Eng
variable {P : Program}
/-- a memory that has grown, nothing of it read -/
theorem Step.grow {θ : Env} {h : AHeap} {W W' : World} (hr : HR θ h W) (hs : W.heap.size ≤ W'.heap.size) (hk : ∀ B, B < W.heap.size → W'.heap[B]? = W.heap[B]?) (hos : W'.os = W.os) (hout : W'.output = W.output) : Step θ h W θ h W' :=
  ⟨hr.ext (Agree.refl _ _) hk hs, Nat.le_refl _, fun _ _ => ⟨rfl, rfl, rfl⟩, hs, fun B hB _ => hk B hB, fun b o hb => .inr ⟨b, o, hb, rfl⟩, hos, hout⟩
/-- one of its new blocks gets a number -/
theorem Step.take {θ : Env} {h : AHeap} {W W' : World} (hr : HR θ h W) (hs : W.heap.size ≤ W'.heap.size) (hk : ∀ B, B < W.heap.size → W'.heap[B]? = W.heap[B]?) (hos : W'.os = W.os) (hout : W'.output = W.output)
    {g base cap : Nat} {ob : AObj} (hg : W.heap.size ≤ g) (hg2 : g < W'.heap.size) (hob : ObjR (θ.set h.next g base cap) (fun p => p.toNat < h.next.toNat + 1) h.next W' ob) :
    Step θ h W (θ.set h.next g base cap) (h.new ob) W' := by
  have hlt : ∀ b o, h.get b = some o → b ≠ h.next := fun b o hb e => by have := hr.dom b o hb; rw [e] at this; exact Nat.lt_irrefl _ this
  have hag := agree_set θ h.next g base cap
  have hr' : HR (θ.set h.next g base cap) h W' := hr.ext (fun x hx => hag x hx) hk hs
  refine ⟨hr'.absNew (by rw [Env.set_same.1]; exact hg2) hob (fun b o hb => ?_), by rw [AHeap.next_new]; omega, fun p hp => Env.set_ne fun e => ?_, hs, fun B hB _ => hk B hB, fun b o hb => ?_, hos, hout⟩
  · rw [Env.set_same.1, (Env.set_ne (hlt b o hb)).1]
    have := hr.low b (hr.dom b o hb); omega
  · rw [AHeap.next_new] at hp; subst e; omega
  · rw [AHeap.get_new] at hb
    split at hb
    · rename_i e; subst e; rw [Env.set_same.1]; exact .inl hg
    · rename_i e; rw [(Env.set_ne e).1]; exact .inr ⟨b, o, hb, rfl⟩

/-! ### Sorted keys -/
def insI (x : Int) : List Int → List Int
  | [] => [x]
  | y :: l => bif ltI y x then y :: insI x l else x :: y :: l
/-- is it an int's number? -/
def inI (n : Int) : Bool := !ltI n (-9223372036854775808) && ltI n 9223372036854775808
def keysI : List (AV × AV) → Option (List Int)
  | [] => some []
  | (.int .i64 n, _) :: es => (match inI n, keysI es with | true, some l => some (insI n l) | _, _ => none)
  | _ => none
theorem insI_perm (x : Int) : ∀ l, (insI x l).Perm (x :: l)
  | [] => .refl _
  | y :: l => by
    simp only [insI]
    cases ltI y x
    · exact .refl _
    · exact ((insI_perm x l).cons y).trans (.swap x y l)
theorem insI_sorted (x : Int) : ∀ {l : List Int}, l.Pairwise (· ≤ ·) → (insI x l).Pairwise (· ≤ ·)
  | [], _ => by simp [insI]
  | y :: l, h => by
    simp only [insI]
    have hy := List.pairwise_cons.1 h
    cases hb : ltI y x with
    | false =>
      have hxy : x ≤ y := by
        have : ¬ y < x := fun hlt => by
          rw [ltI_eq] at hb; simp at hb; omega
        omega
      refine List.pairwise_cons.2 ⟨fun z hz => ?_, h⟩
      simp only [List.mem_cons] at hz
      rcases hz with rfl | hz
      · exact hxy
      · exact Int.le_trans hxy (hy.1 z hz)
    | true =>
      have hyx : y ≤ x := by rw [ltI_eq] at hb; simp at hb; omega
      refine List.pairwise_cons.2 ⟨fun z hz => ?_, insI_sorted x hy.2⟩
      rcases List.mem_cons.1 ((insI_perm x l).mem_iff.1 hz) with rfl | hz
      · exact hyx
      · exact hy.1 z hz
/-- the keys of entries, as they come -/
def rawKeys : List (AV × AV) → List Int
  | [] => []
  | (.int _ n, _) :: es => n :: rawKeys es
  | _ :: es => rawKeys es
theorem keysI_spec : ∀ {es : List (AV × AV)} {l : List Int}, keysI es = some l → l.Perm (rawKeys es) ∧ l.Pairwise (· ≤ ·) ∧ ∀ e ∈ es, ∃ n, e.1 = .int .i64 n ∧ inI n = true
  | [], l, h => by simp only [keysI, Option.some.injEq] at h; subst h; exact ⟨.refl _, .nil, by simp⟩
  | (k, v) :: es, l, h => by
    cases k with
    | int kk n =>
      cases kk
      case i64 =>
        simp only [keysI] at h
        split at h
        · rename_i l' hn hl
          injection h with h; subst h
          obtain ⟨h1, h2, h3⟩ := keysI_spec hl
          refine ⟨(insI_perm n l').trans (h1.cons n), insI_sorted n h2, fun e he => ?_⟩
          simp only [List.mem_cons] at he
          rcases he with rfl | he
          · exact ⟨n, rfl, hn⟩
          · exact h3 e he
        · cases h
      all_goals simp [keysI] at h
    | _ => simp [keysI] at h
theorem sort_unique {ss l : List Int} (hp : ss.Perm l) (hs : l.Pairwise (· ≤ ·)) : ss.mergeSort (fun x y => decide (x ≤ y)) = l := by
  have h1 : (ss.mergeSort (fun x y => decide (x ≤ y))).Pairwise (fun a b => decide (a ≤ b) = true) := List.pairwise_mergeSort (by intro a b c; simp; omega) (by intro a b; simp; omega) ss
  have h2 : (ss.mergeSort (fun x y => decide (x ≤ y))).Perm l := (List.mergeSort_perm ss _).trans hp
  exact h2.eq_of_pairwise (le := (· ≤ ·)) (fun a b _ _ h1 h2 => Int.le_antisymm h1 h2) (h1.imp fun h => of_decide_eq_true h) hs
end Go.Eng
namespace Go.Eng
variable {P : Program}
def keysOf (es : List MapEntry) : List Int := es.map fun x => match x.key with | .int _ n => n | _ => 0
/-- what the library's slices.Sorted does at the iterator over a map's keys -/
def SortedAt (P : Program) (f g : Nat) (et : TypeId) : Prop := ∀ (pb mb : Nat) (es : Array MapEntry) (clock : Nat) (W : World), pb < W.heap.size → W.cell? ⟨pb, 0, none⟩ = some (.map (some mb)) → W.heap[mb]? = some (.map es clock) →
  Go.MapKept.Stamped es clock → es.size ≤ 1000000 → (∀ x ∈ es.toList, ∃ n, x.key = .int .i64 n ∧ -9223372036854775808 ≤ n ∧ n < 9223372036854775808) →
  Calls P f #[.func (.func g) #[] #[.pointer (some ⟨pb, 0, none⟩)]] W fun e w' => ∃ (v : Value) (ss : List Int), e = .returned v ∧ ss.Perm (keysOf es.toList) ∧
    w'.ownsRow W.heap.size et 1 v ss.length ((ss.mergeSort fun x y => decide (x ≤ y)).map fun n => .int .i64 n) ∧ (v = .slice none 0 0 ↔ ss = []) ∧ Go.RowKit.Below W.heap.size W w'
def intsA (l : List Int) : List AV := l.map fun n => .int .i64 n
def hookS (g : Nat) (args : List AV) (h : AHeap) : CR := match args with
  | [.fn f [] [.ptr b 0]] => (match Nat.beq f g with
    | true => (match h.get b with
      | some (.cells _ cs none) => (match cs.get 0 with
        | some (.mp m) => (match h.get m with
          | some (.map es) => (match Nat.ble (lenF es) 1000000 with
            | true => (match keysI es with
              | some [] => .ret .nils h
              | some (x :: l) => .ret (.sl h.next 0 (lenF (x :: l)) (.op 0)) (h.new (.cells (lenF (x :: l) * 1) (trOf (intsA (x :: l))) (some 1)))
              | none => .fail)
            | false => .fail)
          | _ => .fail)
        | _ => .fail)
      | _ => .fail)
    | false => .fail)
  | _ => .fail
theorem rawKeys_of {θ : Env} : ∀ {es : List (AV × AV)} {es' : List MapEntry}, (∀ e ∈ es, ∃ n, e.1 = .int .i64 n ∧ inI n = true) → es'.map (fun x => (x.key, x.val)) = es.map (fun x => (x.1.conc θ, x.2.conc θ)) →
    rawKeys es = keysOf es' ∧ ∀ x ∈ es', ∃ n, x.key = .int .i64 n ∧ inI n = true
  | [], [], _, _ => ⟨rfl, by simp⟩
  | [], _ :: _, _, h => by simp at h
  | _ :: _, [], _, h => by simp at h
  | (k, v) :: es, x :: es', hk, h => by
    simp only [List.map_cons, List.cons.injEq, Prod.mk.injEq] at h
    obtain ⟨⟨h1, h2⟩, h3⟩ := h
    obtain ⟨n, e1, e2⟩ := hk (k, v) (by simp)
    simp only at e1
    subst e1
    obtain ⟨i1, i2⟩ := rawKeys_of (es := es) (es' := es') (fun e he => hk e (by simp [he])) h3
    have h1 : x.key = .int .i64 n := h1
    refine ⟨by simp [rawKeys, keysOf, h1]; exact i1, fun y hy => ?_⟩
    simp only [List.mem_cons] at hy
    rcases hy with rfl | hy
    · exact ⟨n, h1, e2⟩
    · exact i2 y hy
theorem inI_spec {n : Int} (h : inI n = true) : -9223372036854775808 ≤ n ∧ n < 9223372036854775808 := by
  unfold inI at h
  rw [ltI_eq, ltI_eq] at h
  simp at h
  omega
theorem hookS_ok {f g : Nat} {et : TypeId} (hs : SortedAt P f g et) (args : List AV) (h : AHeap) (θ : Env) (W : World) (hr : HR θ h W) (ha : AV.oks θ h.D args) : CallRes P f args θ h W (hookS g args h) := by
  unfold hookS
  split
  · rename_i f' b
    split
    · rename_i hfg
      have hfg : f' = g := Nat.eq_of_beq_eq_true hfg
      subst hfg
      split
      · rename_i m0 cs hb
        split
        · rename_i m hm
          split
          · rename_i es hes
            split
            · rename_i hlen
              have hlen : es.length ≤ 1000000 := by rw [← lenF_eq]; exact Nat.le_of_ble_eq_true hlen
              obtain ⟨c, e, o1, o2, o3, o4⟩ := hr.obj b _ hb
              have hbase : θ.base b = 0 := o4
              obtain ⟨_, _, _, q4⟩ := o3 0 _ hm
              rw [hbase] at q4
              obtain ⟨es', clk, g1, g2, g3, _⟩ := get_map hr hes
              have hst := get_map_st hr hes g1
              have hsz : es'.size = es.length := by
                have := congrArg List.length g3
                simpa using this
              have hcell : W.cell? ⟨θ.blk b, 0, none⟩ = some (.map (some (θ.blk m))) := by
                simp only [World.cell?, o1]
                simpa [AV.conc] using q4
              have hargs : (⟨AV.concs θ [.fn f' [] [.ptr b 0]]⟩ : Array Value) = #[.func (.func f') #[] #[.pointer (some ⟨θ.blk b, 0, none⟩)]] := by
                simp [AV.concs, AV.conc, hbase]
              have main : ∀ l, keysI es = some l → Calls P f ⟨AV.concs θ [.fn f' [] [.ptr b 0]]⟩ W fun e w' => ∃ v, e = .returned v ∧ Go.RowKit.Below W.heap.size W w' ∧ (l = [] → v = .slice none 0 0) ∧
                  (l ≠ [] → ∃ gb cap cur, v = .slice (some ⟨gb, 0, none⟩) l.length cap ∧ W.heap.size ≤ gb ∧ w'.heap[gb]? = some (.cells cur et (0, 0)) ∧ l.length ≤ cap ∧ cur.size = cap ∧ cur.toList.take l.length = l.map fun n => .int .i64 n) := by
                intro l hl
                obtain ⟨k1, k2, k3⟩ := keysI_spec hl
                obtain ⟨r1, r2⟩ := rawKeys_of k3 g3
                rw [hargs]
                refine Calls.mono (hs (θ.blk b) (θ.blk m) es' clk W (hr.low b (hr.dom b _ hb)) hcell g1 hst (by omega) (fun x hx => ?_)) fun e w' => ?_
                · obtain ⟨n, n1, n2⟩ := r2 x hx
                  exact ⟨n, n1, inI_spec n2⟩
                · rintro ⟨v, ss, rfl, hp, hrow, hnil, hbel⟩
                  have hp' : ss.Perm l := hp.trans (by rw [← r1]; exact k1.symm)
                  have hsort := sort_unique hp' k2
                  have hl2 : ss.length = l.length := hp'.length_eq
                  refine ⟨v, rfl, hbel, fun he => hnil.2 ?_, fun hne => ?_⟩
                  · subst he; exact List.Perm.eq_nil hp'
                  · obtain ⟨_, hrow⟩ := hrow
                    rcases hrow with ⟨rfl, hz⟩ | ⟨gb, cap, cur, rfl, w1, w2, w3, w4, w5, w6⟩
                    · exact absurd (List.eq_nil_of_length_eq_zero (by omega)) hne
                    · rw [hsort, hl2, Nat.mul_one] at w6
                      exact ⟨gb, cap, cur, by rw [hl2], w1, w2, by omega, by omega, w6⟩
              split
              · rename_i hk
                refine Calls.mono (main [] hk) fun e w' ⟨v, h1, h2, h3, _⟩ => ⟨θ, Step.grow hr h2.size h2.block h2.os h2.output, trivial, ?_⟩
                rw [h1, h3 rfl]; rfl
              · rename_i x l hk
                refine Calls.mono (main (x :: l) hk) fun e w' ⟨v, h1, h2, _, h4⟩ => ?_
                obtain ⟨gb, cap, cur, rfl, w1, w2, w3, w4, w5⟩ := h4 (by simp)
                have hnum : lenF (x :: l) = (x :: l).length := lenF_eq _
                have hD : ∀ θ' : Env, AV.oks θ' (fun p => p.toNat < h.next.toNat + 1) (intsA (x :: l)) := fun θ' => oks_iff.2 fun v hv => by
                  simp only [intsA, List.mem_map] at hv
                  obtain ⟨n, _, rfl⟩ := hv
                  trivial
                have st : Step θ h W (θ.set h.next gb 0 cap) (h.new (.cells (lenF (x :: l) * 1) (trOf (intsA (x :: l))) (some 1))) w' := by
                  refine Step.take hr h2.size h2.block h2.os h2.output w1 (Array.getElem?_eq_some_iff.1 w2).1 ⟨cur, et, by rw [Env.set_same.1]; exact w2, by rw [Env.set_same.2.1, hnum]; omega, fun i v hv => ?_, ?_⟩
                  · rw [trOf_get] at hv
                    have hlt := (List.getElem?_eq_some_iff.1 hv).1
                    have hmem := List.mem_of_getElem? hv
                    refine ⟨by simpa [intsA, hnum] using hlt, oks_iff.1 (hD _) v hmem, ?_, ?_⟩
                    · simp only [intsA, List.mem_map] at hmem
                      obtain ⟨n, _, rfl⟩ := hmem; rfl
                    · rw [Env.set_same.2.1, Nat.zero_add]
                      have hlt' : i < (x :: l).length := by simpa [intsA] using hlt
                      have e1 : cur[i]? = (cur.toList.take (x :: l).length)[i]? := by rw [List.getElem?_take_of_lt hlt', Array.getElem?_toList]
                      rw [e1, w5]
                      simp only [intsA, List.getElem?_map, Option.map_eq_some_iff] at hv ⊢
                      obtain ⟨n, n1, rfl⟩ := hv
                      exact ⟨n, n1, rfl⟩
                  · simp only [OpnR, Env.set_same.2.1, Env.set_same.2.2, hnum]; omega
                refine ⟨_, st, ⟨?_, ?_⟩, ?_⟩
                · show h.next.toNat < (h.new _).next.toNat
                  rw [AHeap.next_new]; omega
                · rw [Env.set_same.2.2, hnum]; show 0 + (x :: l).length ≤ cap; omega
                · rw [h1]
                  simp [AV.conc, ACap.conc, Env.set_same.1, Env.set_same.2.1, Env.set_same.2.2, hnum]
              · trivial
            · trivial
          · trivial
        · trivial
      · trivial
    · trivial
  · trivial
end Go.Eng
namespace Go.Eng
variable {P : Program}
abbrev termA (k0 k1 : Int) (k2 : Bool) (k4 : Int) (k5 : ByteArray) : List AV := [.int .i64 k0, .int .i64 k1, .bool k2, .nils, .int .u64 k4, .str k5, .nils]
abbrev nilA : List AV := [.int .i64 7, .int .i64 0, .bool false, .nils, .int .u64 0, .str .empty, .nils]
/-- what term.List does at one term that has no parts and no limbs -/
def ListAt (P : Program) (f : Nat) : Prop := ∀ (b off cap : Nat) (k0 k1 k4 : Int) (k2 : Bool) (k5 : ByteArray) (w : World), b < w.heap.size →
  w.cell? ⟨b, off, none⟩ = some (.int .i64 k0) → w.cell? ⟨b, off + 1, none⟩ = some (.int .i64 k1) → w.cell? ⟨b, off + 2, none⟩ = some (.bool k2) → w.cell? ⟨b, off + 3, none⟩ = some (.slice none 0 0) →
  w.cell? ⟨b, off + 4, none⟩ = some (.int .u64 k4) → w.cell? ⟨b, off + 5, none⟩ = some (.string k5) → w.cell? ⟨b, off + 6, none⟩ = some (.slice none 0 0) →
  Calls P f #[.slice (some ⟨b, off, none⟩) 1 cap] w fun e W' => ∃ g, e = .returned (.agg #[.int .i64 8, .int .i64 0, .bool false, .slice none 0 0, .int .u64 0, .string .empty, .slice (some ⟨g, 0, none⟩) 2 2]) ∧
    w.heap.size ≤ g ∧ W'.heap[g]? = some (.cells #[.int .i64 k0, .int .i64 k1, .bool k2, .slice none 0 0, .int .u64 k4, .string k5, .slice none 0 0, .int .i64 7, .int .i64 0, .bool false, .slice none 0 0, .int .u64 0, .string .empty, .slice none 0 0] 32 (0, 0)) ∧ Go.RowKit.Below w.heap.size w W'
def hookLs (b : Pt) (off : Nat) (h : AHeap) : CR := match h.get b with
  | some (.cells _ cs _) => (match readN cs 7 off with
    | some [.int .i64 k0, .int .i64 k1, .bool k2, .nils, .int .u64 k4, .str k5, .nils] =>
      .ret (.agg [.int .i64 8, .int .i64 0, .bool false, .nils, .int .u64 0, .str .empty, .sl h.next 0 2 (.ex 2)]) (h.new (.cells 14 (trOf (termA k0 k1 k2 k4 k5 ++ nilA)) none))
    | _ => .fail)
  | _ => .fail
def hookL (args : List AV) (h : AHeap) : CR := match args with
  | [.sl b off n _] => (match Nat.beq n 1 with | true => hookLs b off h | false => .fail)
  | _ => .fail
theorem hookL_ok {f : Nat} (hs : ListAt P f) (args : List AV) (h : AHeap) (θ : Env) (W : World) (hr : HR θ h W) (ha : AV.oks θ h.D args) : CallRes P f args θ h W (hookL args h) := by
  unfold hookL
  split
  · rename_i b off n c
    split
    · rename_i hn
      have hn : n = 1 := Nat.eq_of_beq_eq_true hn
      subst hn
      unfold hookLs
      split
      · rename_i m cs o hb
        split
        · rename_i k0 k1 k2 k4 k5 hl
          obtain ⟨_, h2⟩ := readN_spec 7 off cs _ hl
          have hc : ∀ j v, (termA k0 k1 k2 k4 k5)[j]? = some v → W.cell? ⟨θ.blk b, θ.base b + off + j, none⟩ = some (v.conc θ) := fun j v hj => by
            have hlt : j < 7 := by
              have := (List.getElem?_eq_some_iff.1 hj).1
              simpa using this
            have := (cell_at hr hb (i := off + j) (v := v) (by rw [h2 j hlt]; exact hj)).2.2
            rwa [← Nat.add_assoc] at this
          refine Calls.mono (hs (θ.blk b) (θ.base b + off) (c.conc (θ.cap b)) k0 k1 k4 k2 k5 W (hr.low b (hr.dom b _ hb)) (hc 0 _ rfl) (hc 1 _ rfl) (hc 2 _ rfl) (hc 3 _ rfl) (hc 4 _ rfl) (hc 5 _ rfl) (hc 6 _ rfl)) fun e w' => ?_
          rintro ⟨g, rfl, hg, hgb, hbel⟩
          have hoks : ∀ θ' : Env, ∀ v ∈ termA k0 k1 k2 k4 k5 ++ nilA, v.ok θ' (fun p => p.toNat < h.next.toNat + 1) ∧ v.sc = true := fun θ' v hv => by
            simp only [termA, nilA, List.cons_append, List.nil_append, List.mem_cons, List.not_mem_nil, or_false] at hv
            rcases hv with rfl | rfl | rfl | rfl | rfl | rfl | rfl | rfl | rfl | rfl | rfl | rfl | rfl | rfl <;> exact ⟨trivial, rfl⟩
          have st : Step θ h W (θ.set h.next g 0 2) (h.new (.cells 14 (trOf (termA k0 k1 k2 k4 k5 ++ nilA)) none)) w' := by
            refine Step.take hr hbel.size hbel.block hbel.os hbel.output hg (Array.getElem?_eq_some_iff.1 hgb).1 ⟨_, 32, by rw [Env.set_same.1]; exact hgb, by rw [Env.set_same.2.1]; simp, fun i v hv => ?_, ?_⟩
            · rw [trOf_get] at hv
              have hlt := (List.getElem?_eq_some_iff.1 hv).1
              have hmem := List.mem_of_getElem? hv
              refine ⟨by simpa using hlt, (hoks _ v hmem).1, (hoks (θ.set h.next g 0 2) v hmem).2, ?_⟩
              rw [Env.set_same.2.1, Nat.zero_add]
              have e : (#[.int .i64 k0, .int .i64 k1, .bool k2, .slice none 0 0, .int .u64 k4, .string k5, .slice none 0 0, .int .i64 7, .int .i64 0, .bool false, .slice none 0 0, .int .u64 0, .string .empty, .slice none 0 0] : Array Value) = ⟨(termA k0 k1 k2 k4 k5 ++ nilA).map (AV.conc (θ.set h.next g 0 2))⟩ := by
                simp [AV.conc]
              rw [e]
              simp only [List.getElem?_toArray, List.getElem?_map, hv, Option.map_some]
            · simp only [OpnR, Env.set_same.2.1]
          refine ⟨_, st, ⟨⟨trivial, trivial, trivial, trivial, trivial, trivial, ⟨?_, Nat.le_refl _⟩, trivial⟩, rfl⟩, ?_⟩
          · show h.next.toNat < (h.new _).next.toNat
            rw [AHeap.next_new]; omega
          · simp [AV.conc, AV.concs, ACap.conc, Env.set_same.1, Env.set_same.2.1]
        · trivial
      · trivial
    · trivial
  · trivial
end Go.Eng
