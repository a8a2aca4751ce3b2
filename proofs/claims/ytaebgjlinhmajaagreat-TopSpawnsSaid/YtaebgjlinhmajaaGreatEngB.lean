/-
  The evaluator is sound: what abstract values stand for, operations that read.
-/
import Derived.Laws.CopyRow
import Derived.Laws.Cells
import Derived.MapKept
import Derived.Laws.Rows
import Derived.Laws.Entries
import Derived.ChangeKeysEq
import Derived.WideLaws
import Derived.Deep.DeepRowAt
import Derived.Laws.StructEq
import Derived.Laws.Build
import Derived.Test.YtaebgjlinhmajaaGreatEngA
namespace Go.Eng

/-! ### Paths and tries -/
theorem Pt.toNat_succ : ∀ p : Pt, p.succ.toNat = p.toNat + 1
  | .e => rfl
  | .p0 r => rfl
  | .p1 r => rfl
  | .p2 r => rfl
  | .p3 r => by simp [Pt.succ, Pt.toNat, Pt.toNat_succ r]; omega
theorem Pt.toNat_inj : ∀ {p q : Pt}, p.toNat = q.toNat → p = q := by
  intro p
  induction p with
  | e => intro q h; cases q <;> simp [Pt.toNat] at h ⊢
  | p0 r ih => intro q h; cases q <;> simp [Pt.toNat] at h <;> first | exact congrArg _ (ih (by omega)) | omega
  | p1 r ih => intro q h; cases q <;> simp [Pt.toNat] at h <;> first | exact congrArg _ (ih (by omega)) | omega
  | p2 r ih => intro q h; cases q <;> simp [Pt.toNat] at h <;> first | exact congrArg _ (ih (by omega)) | omega
  | p3 r ih => intro q h; cases q <;> simp [Pt.toNat] at h <;> first | exact congrArg _ (ih (by omega)) | omega
theorem ptGo_toNat : ∀ (f n : Nat), n ≤ f → (ptGo f n).toNat = n := by
  intro f
  induction f with
  | zero => intro n h; have : n = 0 := by omega
            subst this; rfl
  | succ f ih =>
    intro n h
    cases n with
    | zero => rfl
    | succ m =>
      have h2 := ih (m / 4) (by omega)
      simp only [ptGo]
      have h4 : m % 4 < 4 := Nat.mod_lt _ (by omega)
      split
      · simp only [Pt.toNat, h2]; omega
      · simp only [Pt.toNat, h2]; omega
      · simp only [Pt.toNat, h2]; omega
      · rename_i a b c
        have a' : ¬ (m % 4 = 0) := a
        have b' : ¬ (m % 4 = 1) := b
        have c' : ¬ (m % 4 = 2) := c
        simp only [Pt.toNat, h2]; omega
theorem ptOf_toNat (n : Nat) : (ptOf n).toNat = n := ptGo_toNat n n (Nat.le_refl _)
theorem ptOf_inj {m n : Nat} (h : ptOf m = ptOf n) : m = n := by rw [← ptOf_toNat m, ← ptOf_toNat n, h]

theorem Q.at_nil {α : Type} (p : Pt) : (Q.nil : Q α).at p = none := by
  induction p with
  | e => rfl
  | p0 r ih => exact ih
  | p1 r ih => exact ih
  | p2 r ih => exact ih
  | p3 r ih => exact ih
theorem Q.at_put {α : Type} (v : Option α) : ∀ (p : Pt) (t : Q α) (q : Pt), (t.put v p).at q = if q = p then v else t.at q := by
  intro p
  induction p with
  | e => intro t q; cases q <;> simp [Q.put, Q.at, Q.val, Q.c0, Q.c1, Q.c2, Q.c3]
  | p0 r ih => intro t q; cases q <;> simp [Q.put, Q.at, Q.val, Q.c0, Q.c1, Q.c2, Q.c3, ih]
  | p1 r ih => intro t q; cases q <;> simp [Q.put, Q.at, Q.val, Q.c0, Q.c1, Q.c2, Q.c3, ih]
  | p2 r ih => intro t q; cases q <;> simp [Q.put, Q.at, Q.val, Q.c0, Q.c1, Q.c2, Q.c3, ih]
  | p3 r ih => intro t q; cases q <;> simp [Q.put, Q.at, Q.val, Q.c0, Q.c1, Q.c2, Q.c3, ih]
theorem Q.get_set {α : Type} (t : Q α) (m n : Nat) (v : Option α) : (t.set m v).get n = if n = m then v else t.get n := by
  unfold Q.set Q.get
  rw [Q.at_put]
  by_cases h : n = m
  · subst h; simp
  · rw [if_neg h, if_neg fun e => h (ptOf_inj e)]
theorem Q.get_nil {α : Type} (n : Nat) : (Q.nil : Q α).get n = none := Q.at_nil _

theorem lenF_eq {α : Type} : ∀ l : List α, lenF l = l.length
  | [] => rfl
  | _ :: l => by simp [lenF, lenF_eq l]
theorem nthF_eq {α : Type} : ∀ (l : List α) (n : Nat), nthF l n = l[n]?
  | [], n => by simp [nthF]
  | x :: l, 0 => rfl
  | x :: l, n + 1 => by simp [nthF, nthF_eq l n]
theorem dropF_eq {α : Type} : ∀ (n : Nat) (l : List α), dropF n l = l.drop n
  | 0, l => by simp [dropF]
  | n + 1, [] => by simp [dropF]
  | n + 1, x :: l => by simp [dropF, dropF_eq n l]
theorem takeF_spec {α : Type} : ∀ (n : Nat) (l r : List α), takeF n l = some r → n ≤ l.length ∧ r = l.take n
  | 0, l, r, h => by simp [takeF] at h; simp [h]
  | n + 1, [], r, h => by simp [takeF] at h
  | n + 1, x :: l, r, h => by
    simp only [takeF] at h
    split at h
    · cases h
    · rename_i r' hr
      obtain ⟨h1, h2⟩ := takeF_spec n l r' hr
      injection h with h
      subst h; subst h2
      exact ⟨by simp; omega, by simp⟩
theorem trOfFrom_get : ∀ (vs : List AV) (i : Nat) (t : Q AV) (n : Nat),
    (trOfFrom vs i t).get n = if n < i then t.get n else if n < i + vs.length then vs[n - i]? else t.get n
  | [], i, t, n => by simp [trOfFrom]; intro h1 h2; omega
  | v :: vs, i, t, n => by
    simp only [trOfFrom]
    rw [trOfFrom_get vs (i + 1) _ n, Q.get_set]
    by_cases h : n < i
    · rw [if_pos (by omega), if_neg (by omega), if_pos h]
    · rw [if_neg h]
      by_cases h2 : n = i
      · subst h2
        rw [if_pos (by omega), if_pos rfl, if_pos (by simp)]
        simp
      · rw [if_neg (by omega)]
        have e : n - i = (n - (i + 1)) + 1 := by omega
        by_cases h3 : n < i + 1 + vs.length
        · rw [if_pos h3, if_pos (by simp only [List.length_cons]; omega), e]; rfl
        · rw [if_neg h3, if_neg h2, if_neg (by simp only [List.length_cons]; omega)]
theorem trOf_get (vs : List AV) (n : Nat) : (trOf vs).get n = vs[n]? := by
  unfold trOf
  rw [trOfFrom_get]
  by_cases h : n < vs.length
  · simp [h]
  · simp [Q.get_nil, h]
theorem readN_spec : ∀ (n i : Nat) (t : Q AV) (l : List AV), readN t n i = some l → l.length = n ∧ ∀ j, j < n → t.get (i + j) = l[j]?
  | 0, i, t, l, h => by simp [readN] at h; subst h; simp
  | n + 1, i, t, l, h => by
    simp only [readN] at h
    split at h
    · cases h
    · rename_i v hv
      split at h
      · cases h
      · rename_i r hr
        injection h with h; subst h
        obtain ⟨h1, h2⟩ := readN_spec n (i + 1) t r hr
        refine ⟨by simp [h1], fun j hj => ?_⟩
        cases j with
        | zero => simpa using hv
        | succ j => have := h2 j (by omega); rw [show i + (j + 1) = i + 1 + j by omega, this]; simp

/-! ### What abstract values stand for -/
structure Env where
  blk : Pt → Nat
  base : Pt → Nat
  cap : Pt → Nat

def ACap.conc (c : Nat) : ACap → Nat
  | .ex n => n
  | .op k => c - k

mutual
def AV.conc (θ : Env) : AV → Value
  | .bool b => .bool b
  | .int k n => .int k n
  | .str s => .string s
  | .nilp => .pointer none
  | .ptr b off => .pointer (some ⟨θ.blk b, θ.base b + off, none⟩)
  | .nils => .slice none 0 0
  | .sl b off len c => .slice (some ⟨θ.blk b, θ.base b + off, none⟩) len (c.conc (θ.cap b))
  | .nilm => .map none
  | .mp b => .map (some (θ.blk b))
  | .fn f a c => .func (.func f) ⟨AV.concs θ a⟩ ⟨AV.concs θ c⟩
  | .nilf => .nilFunc
  | .ifc t v => .iface t (AV.conc θ v)
  | .nili => .nilIface
  | .agg cs => .agg ⟨AV.concs θ cs⟩
  | .tup vs => .tuple ⟨AV.concs θ vs⟩
def AV.concs (θ : Env) : List AV → List Value
  | [] => []
  | v :: vs => AV.conc θ v :: AV.concs θ vs
end
theorem concs_eq (θ : Env) : ∀ l : List AV, AV.concs θ l = l.map (AV.conc θ)
  | [] => rfl
  | v :: vs => by simp [AV.concs, concs_eq θ vs]

def ACap.ok (len cap : Nat) : ACap → Prop
  | .ex n => len ≤ n
  | .op k => k + len ≤ cap
mutual
/-- all numbers of blocks are in D; a slice's length is at most its capacity -/
def AV.ok (θ : Env) (D : Pt → Prop) : AV → Prop
  | .ptr b _ => D b
  | .sl b _ len c => D b ∧ c.ok len (θ.cap b)
  | .mp b => D b
  | .fn _ a c => AV.oks θ D a ∧ AV.oks θ D c
  | .ifc _ v => AV.ok θ D v
  | .agg cs => AV.oks θ D cs ∧ allSc cs = true
  | .tup vs => AV.oks θ D vs
  | _ => True
def AV.oks (θ : Env) (D : Pt → Prop) : List AV → Prop
  | [] => True
  | v :: vs => AV.ok θ D v ∧ AV.oks θ D vs
end
theorem oks_iff {θ : Env} {D : Pt → Prop} : ∀ {l : List AV}, AV.oks θ D l ↔ ∀ v ∈ l, v.ok θ D
  | [] => by simp [AV.oks]
  | v :: vs => by simp [AV.oks, oks_iff (l := vs)]

/-- two readings agree on D -/
def Agree (D : Pt → Prop) (θ θ' : Env) : Prop := ∀ p : Pt, D p → θ'.blk p = θ.blk p ∧ θ'.base p = θ.base p ∧ θ'.cap p = θ.cap p
mutual
theorem conc_agree {D : Pt → Prop} {θ θ' : Env} (h : Agree D θ θ') : ∀ v : AV, v.ok θ D → v.conc θ' = v.conc θ
  | .bool _, _ | .int _ _, _ | .str _, _ | .nilp, _ | .nils, _ | .nilm, _ | .nilf, _ | .nili, _ => rfl
  | .ptr b off, hv => by obtain ⟨h1, h2, _⟩ := h b hv; simp [AV.conc, h1, h2]
  | .sl b off len c, hv => by obtain ⟨h1, h2, h3⟩ := h b hv.1; simp [AV.conc, h1, h2, h3]
  | .mp b, hv => by obtain ⟨h1, _, _⟩ := h b hv; simp [AV.conc, h1]
  | .fn f a c, hv => by simp [AV.conc, concs_agree h a hv.1, concs_agree h c hv.2]
  | .ifc t v, hv => by simp [AV.conc, conc_agree h v hv]
  | .agg cs, hv => by simp [AV.conc, concs_agree h cs hv.1]
  | .tup cs, hv => by simp [AV.conc, concs_agree h cs hv]
theorem concs_agree {D : Pt → Prop} {θ θ' : Env} (h : Agree D θ θ') : ∀ l : List AV, AV.oks θ D l → AV.concs θ' l = AV.concs θ l
  | [], _ => rfl
  | v :: vs, hv => by simp [AV.concs, conc_agree h v hv.1, concs_agree h vs hv.2]
end
mutual
theorem ok_agree {D E : Pt → Prop} {θ θ' : Env} (h : Agree D θ θ') (hm : ∀ p, D p → E p) : ∀ v : AV, v.ok θ D → v.ok θ' E
  | .bool _, _ | .int _ _, _ | .str _, _ | .nilp, _ | .nils, _ | .nilm, _ | .nilf, _ | .nili, _ => trivial
  | .ptr b off, hv => hm b hv
  | .sl b off len c, hv => by
    obtain ⟨_, _, h3⟩ := h b hv.1
    exact ⟨hm b hv.1, by rw [h3]; exact hv.2⟩
  | .mp b, hv => hm b hv
  | .fn f a c, hv => ⟨oks_agree h hm a hv.1, oks_agree h hm c hv.2⟩
  | .ifc t v, hv => ok_agree h hm v hv
  | .agg cs, hv => ⟨oks_agree h hm cs hv.1, hv.2⟩
  | .tup cs, hv => oks_agree h hm cs hv
theorem oks_agree {D E : Pt → Prop} {θ θ' : Env} (h : Agree D θ θ') (hm : ∀ p, D p → E p) : ∀ l : List AV, AV.oks θ D l → AV.oks θ' E l
  | [], _ => trivial
  | v :: vs, hv => ⟨ok_agree h hm v hv.1, oks_agree h hm vs hv.2⟩
end
theorem Agree.refl (D : Pt → Prop) (θ : Env) : Agree D θ θ := fun _ _ => ⟨rfl, rfl, rfl⟩
theorem ok_mono {θ : Env} {D E : Pt → Prop} (hm : ∀ p, D p → E p) {v : AV} (h : v.ok θ D) : v.ok θ E := ok_agree (Agree.refl D θ) hm v h

mutual
theorem ofV_conc (θ : Env) (n : Pt → Prop) : ∀ (v : Value) (a : AV), ofV v = some a → a.conc θ = v ∧ a.ok θ n
  | .bool b, a, h => by simp [ofV] at h; subst h; exact ⟨rfl, trivial⟩
  | .int k m, a, h => by simp [ofV] at h; subst h; exact ⟨rfl, trivial⟩
  | .string s, a, h => by simp [ofV] at h; subst h; exact ⟨rfl, trivial⟩
  | .pointer none, a, h => by simp [ofV] at h; subst h; exact ⟨rfl, trivial⟩
  | .pointer (some x), a, h => by simp [ofV] at h
  | .slice none 0 0, a, h => by simp [ofV] at h; subst h; exact ⟨rfl, trivial⟩
  | .slice none 0 (c + 1), a, h => by simp [ofV] at h
  | .slice none (l + 1) c, a, h => by simp [ofV] at h
  | .slice (some x) l c, a, h => by simp [ofV] at h
  | .map none, a, h => by simp [ofV] at h; subst h; exact ⟨rfl, trivial⟩
  | .map (some x), a, h => by simp [ofV] at h
  | .nilFunc, a, h => by simp [ofV] at h; subst h; exact ⟨rfl, trivial⟩
  | .nilIface, a, h => by simp [ofV] at h; subst h; exact ⟨rfl, trivial⟩
  | .agg ⟨cs⟩, a, h => by
    simp only [ofV] at h
    split at h
    · rename_i l hl
      split at h
      · rename_i hs
        injection h with h; subst h
        obtain ⟨h1, h2⟩ := ofVs_conc θ n cs l hl
        exact ⟨by simp [AV.conc, h1], h2, hs⟩
      · cases h
    · cases h
  | .tuple ⟨cs⟩, a, h => by
    simp only [ofV, Option.map_eq_some_iff] at h
    obtain ⟨l, hl, rfl⟩ := h
    obtain ⟨h1, h2⟩ := ofVs_conc θ n cs l hl
    exact ⟨by simp [AV.conc, h1], h2⟩
  | .float .., a, h => by simp [ofV] at h
  | .complex .., a, h => by simp [ofV] at h
  | .chan _, a, h => by simp [ofV] at h
  | .func .., a, h => by simp [ofV] at h
  | .iface .., a, h => by simp [ofV] at h
theorem ofVs_conc (θ : Env) (n : Pt → Prop) : ∀ (l : List Value) (as : List AV), ofVs l = some as → AV.concs θ as = l ∧ AV.oks θ n as
  | [], as, h => by simp [ofVs] at h; subst h; exact ⟨rfl, trivial⟩
  | v :: vs, as, h => by
    simp only [ofVs] at h
    split at h
    · cases h
    · rename_i a ha
      split at h
      · cases h
      · rename_i r hr
        injection h with h; subst h
        obtain ⟨h1, h2⟩ := ofV_conc θ n v a ha
        obtain ⟨h3, h4⟩ := ofVs_conc θ n vs r hr
        exact ⟨by simp [AV.concs, h1, h3], h2, h4⟩
end
theorem concs_length (θ : Env) (l : List AV) : (AV.concs θ l).length = l.length := by simp [concs_eq]
theorem flat_spec {θ : Env} {n : Pt → Prop} {v : AV} {l : List AV} (h : v.flat = some l) (hv : v.ok θ n) :
    (v.conc θ).cells = ⟨AV.concs θ l⟩ ∧ AV.oks θ n l ∧ allSc l = true := by
  cases v <;> simp only [AV.flat, Option.some.injEq, reduceCtorEq] at h <;> subst h <;>
    first
      | exact ⟨by simp [AV.conc, Value.cells, AV.concs], ⟨hv, trivial⟩, by simp [allSc, AV.sc]⟩
      | exact ⟨by simp [AV.conc, Value.cells], hv.1, hv.2⟩
theorem allSc_iff : ∀ {l : List AV}, allSc l = true ↔ ∀ v ∈ l, v.sc = true
  | [] => by simp [allSc]
  | v :: vs => by simp [allSc, allSc_iff (l := vs)]
theorem sc_conc {θ : Env} {v : AV} (h : v.sc = true) : (v.conc θ).oneCell' = true := by
  cases v <;> simp [AV.sc] at h <;> rfl
end Go.Eng
namespace Go.Eng

/-! ### A memory and what it stands for -/
def OpnR (θ : Env) (b : Pt) (m size : Nat) : Option Nat → Prop
  | none => θ.base b = 0
  | some sz => θ.base b + θ.cap b * sz ≤ size ∧ m ≤ θ.cap b * sz
def ObjR (θ : Env) (n : Pt → Prop) (b : Pt) (W : World) : AObj → Prop
  | .cells m cs o => ∃ c e, W.heap[θ.blk b]? = some (.cells c e (0, 0)) ∧ θ.base b + m ≤ c.size ∧
      (∀ i v, cs.get i = some v → i < m ∧ v.ok θ n ∧ v.sc = true ∧ c[θ.base b + i]? = some (v.conc θ)) ∧ OpnR θ b m c.size o
  | .map es => ∃ es' k, W.heap[θ.blk b]? = some (.map es' k) ∧ (∀ x ∈ es, x.1.ok θ n ∧ x.2.ok θ n) ∧
      es'.toList.map (fun x => (x.key, x.val)) = (es.map fun x => (x.1.conc θ, x.2.conc θ)) ∧ Go.MapKept.Stamped es' k
/-- the numbers that a memory has given -/
def AHeap.D (h : AHeap) : Pt → Prop := fun p => p.toNat < h.next.toNat
structure HR (θ : Env) (h : AHeap) (W : World) : Prop where
  low : ∀ p : Pt, p.toNat < h.next.toNat → θ.blk p < W.heap.size
  dom : ∀ b o, h.get b = some o → b.toNat < h.next.toNat
  inj : ∀ b c o o', h.get b = some o → h.get c = some o' → θ.blk b = θ.blk c → b = c
  obj : ∀ b o, h.get b = some o → ObjR θ h.D b W o
/-- a step of memory -/
structure Step (θ : Env) (h : AHeap) (W : World) (θ' : Env) (h' : AHeap) (W' : World) : Prop where
  hr : HR θ' h' W'
  le : h.next.toNat ≤ h'.next.toNat
  agree : ∀ p : Pt, (p.toNat < h.next.toNat ∨ h'.next.toNat ≤ p.toNat) → θ'.blk p = θ.blk p ∧ θ'.base p = θ.base p ∧ θ'.cap p = θ.cap p
  size : W.heap.size ≤ W'.heap.size
  frame : ∀ B, B < W.heap.size → (∀ b o, h.get b = some o → θ.blk b ≠ B) → W'.heap[B]? = W.heap[B]?
  img : ∀ b o, h'.get b = some o → W.heap.size ≤ θ'.blk b ∨ ∃ c o', h.get c = some o' ∧ θ'.blk b = θ.blk c
  os : W'.os = W.os
  out : W'.output = W.output
theorem Step.ag {θ θ' : Env} {h h' : AHeap} {W W' : World} (s : Step θ h W θ' h' W') : Agree h.D θ θ' := fun p hp => s.agree p (.inl hp)
theorem Step.conc {θ θ' : Env} {h h' : AHeap} {W W' : World} (s : Step θ h W θ' h' W') {v : AV} (hv : v.ok θ h.D) : v.conc θ' = v.conc θ := conc_agree s.ag v hv
theorem Step.ok {θ θ' : Env} {h h' : AHeap} {W W' : World} (s : Step θ h W θ' h' W') {v : AV} (hv : v.ok θ h.D) : v.ok θ' h'.D := ok_agree s.ag (fun _ hp => Nat.lt_of_lt_of_le hp s.le) v hv
theorem Step.refl {θ : Env} {h : AHeap} {W : World} (hr : HR θ h W) : Step θ h W θ h W where
  hr := hr
  le := Nat.le_refl _
  agree := fun _ _ => ⟨rfl, rfl, rfl⟩
  size := Nat.le_refl _
  frame := fun _ _ _ => rfl
  img := fun b o hb => .inr ⟨b, o, hb, rfl⟩
  os := rfl
  out := rfl
theorem Step.trans {θ θ' θ'' : Env} {h h' h'' : AHeap} {W W' W'' : World} (s : Step θ h W θ' h' W') (t : Step θ' h' W' θ'' h'' W'') : Step θ h W θ'' h'' W'' where
  hr := t.hr
  le := Nat.le_trans s.le t.le
  agree := fun p hp => by
    have h1 : p.toNat < h.next.toNat ∨ h'.next.toNat ≤ p.toNat := hp.imp id (Nat.le_trans t.le)
    have h2 : p.toNat < h'.next.toNat ∨ h''.next.toNat ≤ p.toNat := hp.imp (fun h => Nat.lt_of_lt_of_le h s.le) id
    obtain ⟨a1, a2, a3⟩ := s.agree p h1
    obtain ⟨b1, b2, b3⟩ := t.agree p h2
    exact ⟨b1.trans a1, b2.trans a2, b3.trans a3⟩
  size := Nat.le_trans s.size t.size
  frame := fun B hB hn => by
    rw [t.frame B (Nat.lt_of_lt_of_le hB s.size), s.frame B hB hn]
    intro b o hb e
    rcases s.img b o hb with h1 | ⟨c, o', hc, h1⟩
    · omega
    · exact hn c o' hc (h1.symm.trans e)
  img := fun b o hb => by
    rcases t.img b o hb with h1 | ⟨c, o', hc, h1⟩
    · exact .inl (Nat.le_trans s.size h1)
    · rcases s.img c o' hc with h2 | ⟨d, o'', hd, h2⟩
      · exact .inl (h1 ▸ h2)
      · exact .inr ⟨d, o'', hd, h1.trans h2⟩
  os := t.os.trans s.os
  out := t.out.trans s.out

theorem OpnR.keep {θ θ' : Env} {b : Pt} {m size : Nat} {o : Option Nat} (hb : θ'.base b = θ.base b) (hc : θ'.cap b = θ.cap b) (h : OpnR θ b m size o) : OpnR θ' b m size o := by
  cases o with
  | none => simpa [OpnR, hb] using h
  | some sz => simpa [OpnR, hb, hc] using h
theorem ObjR.keep {θ θ' : Env} {n m : Pt → Prop} {b : Pt} {W W' : World} {ob : AObj} (h : ObjR θ n b W ob) (hb : n b) (ha : Agree n θ θ') (hm : ∀ p, n p → m p)
    (hw : W'.heap[θ.blk b]? = W.heap[θ.blk b]?) : ObjR θ' m b W' ob := by
  obtain ⟨e1, e2, e3⟩ := ha b hb
  cases ob with
  | cells k cs o =>
    obtain ⟨c, e, h1, h2, h3, h4⟩ := h
    refine ⟨c, e, by rw [e1, hw, h1], by rw [e2]; exact h2, fun i v hv => ?_, h4.keep e2 e3⟩
    obtain ⟨a0, a1, a2, a3⟩ := h3 i v hv
    exact ⟨a0, ok_agree ha hm v a1, a2, by rw [e2, a3, conc_agree ha v a1]⟩
  | map es =>
    obtain ⟨es', k, h1, h2, h3, h4⟩ := h
    refine ⟨es', k, by rw [e1, hw, h1], fun x hx => ⟨ok_agree ha hm _ (h2 x hx).1, ok_agree ha hm _ (h2 x hx).2⟩, ?_, h4⟩
    rw [h3]
    exact List.map_congr_left fun x hx => by rw [conc_agree ha _ (h2 x hx).1, conc_agree ha _ (h2 x hx).2]

def Env.set (θ : Env) (p : Pt) (blk base cap : Nat) : Env where
  blk := fun q => if q = p then blk else θ.blk q
  base := fun q => if q = p then base else θ.base q
  cap := fun q => if q = p then cap else θ.cap q
theorem Env.set_ne {θ : Env} {p q : Pt} {blk base cap : Nat} (h : q ≠ p) :
    (θ.set p blk base cap).blk q = θ.blk q ∧ (θ.set p blk base cap).base q = θ.base q ∧ (θ.set p blk base cap).cap q = θ.cap q := by simp [Env.set, h]
theorem Env.set_same {θ : Env} {p : Pt} {blk base cap : Nat} :
    (θ.set p blk base cap).blk p = blk ∧ (θ.set p blk base cap).base p = base ∧ (θ.set p blk base cap).cap p = cap := by simp [Env.set]
theorem agree_set (θ : Env) (p : Pt) (blk base cap : Nat) : Agree (fun q => q.toNat < p.toNat) θ (θ.set p blk base cap) := fun q hq =>
  Env.set_ne fun e => by subst e; exact Nat.lt_irrefl _ hq

theorem AHeap.get_put (h : AHeap) (b c : Pt) (o : Option AObj) : (h.put b o).get c = if c = b then o else h.get c := Q.at_put o b h.tr c
theorem AHeap.get_new (h : AHeap) (o : AObj) (c : Pt) : (h.new o).get c = if c = h.next then some o else h.get c := Q.at_put (some o) h.next h.tr c
theorem AHeap.next_new (h : AHeap) (o : AObj) : (h.new o).next.toNat = h.next.toNat + 1 := Pt.toNat_succ _
theorem AHeap.next_skip (h : AHeap) : h.skip.next.toNat = h.next.toNat + 1 := Pt.toNat_succ _

theorem walloc_old {W : World} {o : Obj} {B : Nat} (h : B < W.heap.size) : (W.alloc o).heap[B]? = W.heap[B]? := by
  show (W.heap.push o)[B]? = _
  rw [Array.getElem?_push, if_neg (Nat.ne_of_lt h)]
theorem walloc_new {W : World} {o : Obj} : (W.alloc o).heap[W.heap.size]? = some o := by
  show (W.heap.push o)[W.heap.size]? = _
  rw [Array.getElem?_push, if_pos rfl]

/-- a new block -/
theorem Step.new {θ : Env} {h : AHeap} {W : World} (hr : HR θ h W) (o : Obj) (ob : AObj) (cap : Nat)
    (hob : ObjR (θ.set h.next W.heap.size 0 cap) (fun p => p.toNat < h.next.toNat + 1) h.next (W.alloc o) ob) :
    Step θ h W (θ.set h.next W.heap.size 0 cap) (h.new ob) (W.alloc o) := by
  have hlt : ∀ b o, h.get b = some o → b ≠ h.next := fun b o hb e => by have := hr.dom b o hb; rw [e] at this; exact Nat.lt_irrefl _ this
  refine ⟨⟨?_, ?_, ?_, ?_⟩, ?_, ?_, ?_, ?_, ?_, rfl, rfl⟩
  · intro p hp
    rw [AHeap.next_new] at hp
    by_cases e : p = h.next
    · subst e; rw [Env.set_same.1]; simp
    · rw [(Env.set_ne e).1]
      have : p.toNat ≠ h.next.toNat := fun e' => e (Pt.toNat_inj e')
      have := hr.low p (by omega)
      simp; omega
  · intro b o' hb
    rw [AHeap.get_new] at hb
    rw [AHeap.next_new]
    split at hb
    · rename_i e; subst e; omega
    · have := hr.dom b o' hb; omega
  · intro b c o1 o2 hb hc e
    rw [AHeap.get_new] at hb hc
    split at hb <;> split at hc
    · rename_i e1 e2; rw [e1, e2]
    · rename_i e1 e2
      subst e1
      rw [Env.set_same.1, (Env.set_ne e2).1] at e
      have := hr.low c (hr.dom c o2 hc); omega
    · rename_i e1 e2
      subst e2
      rw [Env.set_same.1, (Env.set_ne e1).1] at e
      have := hr.low b (hr.dom b o1 hb); omega
    · rename_i e1 e2
      rw [(Env.set_ne e1).1, (Env.set_ne e2).1] at e
      exact hr.inj b c o1 o2 hb hc e
  · intro b o' hb
    rw [AHeap.get_new] at hb
    rw [show (h.new ob).D = fun p => p.toNat < h.next.toNat + 1 from funext fun p => by rw [AHeap.D, AHeap.next_new]]
    split at hb
    · rename_i e; subst e; injection hb with hb; subst hb; exact hob
    · exact (hr.obj b o' hb).keep (hr.dom b o' hb) (agree_set _ _ _ _ _) (fun p (hp : p.toNat < _) => by omega) (walloc_old (hr.low b (hr.dom b o' hb)))
  · rw [AHeap.next_new]; omega
  · intro p hp
    rw [AHeap.next_new] at hp
    exact Env.set_ne fun e => by subst e; omega
  · simp
  · intro B hB _
    exact walloc_old hB
  · intro b o' hb
    rw [AHeap.get_new] at hb
    split at hb
    · rename_i e; subst e; rw [Env.set_same.1]; exact .inl (Nat.le_refl _)
    · rename_i e; rw [(Env.set_ne e).1]; exact .inr ⟨b, o', hb, rfl⟩
/-- a number that names no block -/
theorem Step.skip {θ : Env} {h : AHeap} {W : World} (hr : HR θ h W) (blk base cap : Nat) (hb : blk < W.heap.size) :
    Step θ h W (θ.set h.next blk base cap) h.skip W := by
  have hget : ∀ b, h.skip.get b = h.get b := fun _ => rfl
  have hlt : ∀ b o, h.get b = some o → b ≠ h.next := fun b o hb e => by have := hr.dom b o hb; rw [e] at this; exact Nat.lt_irrefl _ this
  refine ⟨⟨?_, ?_, ?_, ?_⟩, ?_, ?_, Nat.le_refl _, fun _ _ _ => rfl, ?_, rfl, rfl⟩
  · intro p hp
    rw [AHeap.next_skip] at hp
    by_cases e : p = h.next
    · subst e; rw [Env.set_same.1]; exact hb
    · rw [(Env.set_ne e).1]
      have : p.toNat ≠ h.next.toNat := fun e' => e (Pt.toNat_inj e')
      exact hr.low p (by omega)
  · intro b o' hb; rw [AHeap.next_skip]; have := hr.dom b o' hb; omega
  · intro b c o1 o2 hb hc e
    rw [(Env.set_ne (hlt b o1 hb)).1, (Env.set_ne (hlt c o2 hc)).1] at e
    exact hr.inj b c o1 o2 hb hc e
  · intro b o' hb
    rw [show h.skip.D = fun p => p.toNat < h.next.toNat + 1 from funext fun p => by rw [AHeap.D, AHeap.next_skip]]
    exact (hr.obj b o' hb).keep (hr.dom b o' hb) (agree_set _ _ _ _ _) (fun p (hp : p.toNat < _) => by omega) rfl
  · rw [AHeap.next_skip]; omega
  · intro p hp
    rw [AHeap.next_skip] at hp
    exact Env.set_ne fun e => by subst e; omega
  · intro b o' hb
    rw [(Env.set_ne (hlt b o' hb)).1]; exact .inr ⟨b, o', hb, rfl⟩
/-- a write into a block -/
theorem Step.upd {θ : Env} {h : AHeap} {W W' : World} (hr : HR θ h W) {b : Pt} {ob ob' : AObj} (hb : h.get b = some ob)
    (hsz : W'.heap.size = W.heap.size) (hoth : ∀ B, B ≠ θ.blk b → W'.heap[B]? = W.heap[B]?) (hos : W'.os = W.os) (hout : W'.output = W.output)
    (hob : ObjR θ h.D b W' ob') : Step θ h W θ (h.put b (some ob')) W' := by
  have hnx : (h.put b (some ob')).next = h.next := rfl
  refine ⟨⟨?_, ?_, ?_, ?_⟩, Nat.le_refl _, fun _ _ => ⟨rfl, rfl, rfl⟩, by omega, ?_, ?_, hos, hout⟩
  · intro p hp; rw [hsz]; exact hr.low p hp
  · intro c o hc
    rw [AHeap.get_put] at hc
    split at hc
    · rename_i e; subst e; exact hr.dom c ob hb
    · exact hr.dom c o hc
  · intro c d o1 o2 hc hd e
    rw [AHeap.get_put] at hc hd
    split at hc <;> split at hd
    · rename_i e1 e2; rw [e1, e2]
    · rename_i e1 e2; subst e1; exact hr.inj c d ob o2 hb hd e
    · rename_i e1 e2; subst e2; exact hr.inj c d o1 ob hc hb e
    · exact hr.inj c d o1 o2 hc hd e
  · intro c o hc
    rw [AHeap.get_put] at hc
    rw [show (h.put b (some ob')).D = h.D from rfl]
    split at hc
    · rename_i e; subst e; injection hc with hc; subst hc; exact hob
    · rename_i e
      exact (hr.obj c o hc).keep (hr.dom c o hc) (Agree.refl _ _) (fun _ h => h) (hoth _ fun e' => e (hr.inj c b o ob hc hb e'))
  · intro B _ hn
    exact hoth B fun e => hn b ob hb e.symm
  · intro c o hc
    rw [AHeap.get_put] at hc
    split at hc
    · rename_i e; subst e; exact .inr ⟨c, ob, hb, rfl⟩
    · exact .inr ⟨c, o, hc, rfl⟩
/-- a block is no more read -/
theorem Step.kill {θ : Env} {h : AHeap} {W : World} (hr : HR θ h W) (b : Pt) : Step θ h W θ (h.put b none) W := by
  have hnx : (h.put b none).next = h.next := rfl
  have hg : ∀ c o, (h.put b none).get c = some o → h.get c = some o := fun c o hc => by
    rw [AHeap.get_put] at hc
    split at hc
    · cases hc
    · exact hc
  refine ⟨⟨hr.low, fun c o hc => hr.dom c o (hg c o hc), fun c d o1 o2 hc hd e => hr.inj c d o1 o2 (hg c o1 hc) (hg d o2 hd) e, fun c o hc => hr.obj c o (hg c o hc)⟩,
    Nat.le_refl _, fun _ _ => ⟨rfl, rfl, rfl⟩, Nat.le_refl _, fun _ _ _ => rfl, fun c o hc => .inr ⟨c, o, hg c o hc, rfl⟩, rfl, rfl⟩
/-- a block gets a new number -/
theorem Step.again {θ : Env} {h : AHeap} {W W' : World} (hr : HR θ h W) {b : Pt} {ob ob' : AObj} (hb : h.get b = some ob) (base cap : Nat)
    (hsz : W'.heap.size = W.heap.size) (hoth : ∀ B, B ≠ θ.blk b → W'.heap[B]? = W.heap[B]?) (hos : W'.os = W.os) (hout : W'.output = W.output)
    (hob : ObjR (θ.set h.next (θ.blk b) base cap) (fun p => p.toNat < h.next.toNat + 1) h.next W' ob') :
    Step θ h W (θ.set h.next (θ.blk b) base cap) ((h.put b none).new ob') W' := by
  have hlt : ∀ b o, h.get b = some o → b ≠ h.next := fun b o hb e => by have := hr.dom b o hb; rw [e] at this; exact Nat.lt_irrefl _ this
  have hbn := hlt b ob hb
  have hg : ∀ c o, ((h.put b none).new ob').get c = some o → (c = h.next ∧ o = ob') ∨ (c ≠ h.next ∧ c ≠ b ∧ h.get c = some o) := fun c o hc => by
    rw [AHeap.get_new] at hc
    have hnx : (h.put b none).next = h.next := rfl
    rw [hnx] at hc
    split at hc
    · rename_i e; injection hc with hc; exact .inl ⟨e, hc.symm⟩
    · rename_i e
      rw [AHeap.get_put] at hc
      split at hc
      · cases hc
      · rename_i e'; exact .inr ⟨e, e', hc⟩
  have hnn : ((h.put b none).new ob').next.toNat = h.next.toNat + 1 := AHeap.next_new _ _
  refine ⟨⟨?_, ?_, ?_, ?_⟩, by omega, ?_, by omega, ?_, ?_, hos, hout⟩
  · intro p hp
    rw [hnn] at hp
    rw [hsz]
    by_cases e : p = h.next
    · subst e; rw [Env.set_same.1]; exact hr.low b (hr.dom b ob hb)
    · rw [(Env.set_ne e).1]
      have : p.toNat ≠ h.next.toNat := fun e' => e (Pt.toNat_inj e')
      exact hr.low p (by omega)
  · intro c o hc
    rw [hnn]
    rcases hg c o hc with ⟨rfl, _⟩ | ⟨_, _, h3⟩
    · omega
    · have := hr.dom c o h3; omega
  · intro c d o1 o2 hc hd e
    rcases hg c o1 hc with ⟨rfl, _⟩ | ⟨e1, e2, h3⟩ <;> rcases hg d o2 hd with ⟨rfl, _⟩ | ⟨f1, f2, h4⟩
    · rfl
    · rw [Env.set_same.1, (Env.set_ne f1).1] at e
      exact absurd (hr.inj b d ob o2 hb h4 e) fun e' => f2 e'.symm
    · rw [Env.set_same.1, (Env.set_ne e1).1] at e
      exact absurd (hr.inj c b o1 ob h3 hb e) e2
    · rw [(Env.set_ne e1).1, (Env.set_ne f1).1] at e
      exact hr.inj c d o1 o2 h3 h4 e
  · intro c o hc
    rw [show ((h.put b none).new ob').D = fun p => p.toNat < h.next.toNat + 1 from funext fun p => by rw [AHeap.D, hnn]]
    rcases hg c o hc with ⟨rfl, rfl⟩ | ⟨e1, e2, h3⟩
    · exact hob
    · exact (hr.obj c o h3).keep (hr.dom c o h3) (agree_set _ _ _ _ _) (fun p (hp : p.toNat < _) => by omega) (hoth _ fun e' => e2 (hr.inj c b o ob h3 hb e'))
  · intro p hp
    rw [hnn] at hp
    exact Env.set_ne fun e => by subst e; omega
  · intro B _ hn
    exact hoth B fun e => hn b ob hb e.symm
  · intro c o hc
    rcases hg c o hc with ⟨rfl, _⟩ | ⟨e1, e2, h3⟩
    · rw [Env.set_same.1]; exact .inr ⟨b, ob, hb, rfl⟩
    · rw [(Env.set_ne e1).1]; exact .inr ⟨c, o, h3, rfl⟩

/-! ### Registers -/
structure RelR (θ : Env) (n : Pt → Prop) (T : Regs) (ρ : Operand → Value) : Prop where
  reg : ∀ t v, T.at (ptOf t) = some v → v.ok θ n ∧ ρ (.tmp t) = v.conc θ
  cst : ∀ v, ρ (.const v) = v
  fn : ∀ f, ρ (.func f) = .func (.func f) #[] #[]
theorem RelR.mono {θ θ' : Env} {n m : Pt → Prop} {T : Regs} {ρ : Operand → Value} (h : RelR θ n T ρ) (ha : Agree n θ θ') (hm : ∀ p, n p → m p) : RelR θ' m T ρ :=
  ⟨fun t v hv => ⟨ok_agree ha hm v (h.reg t v hv).1, by rw [(h.reg t v hv).2, conc_agree ha v (h.reg t v hv).1]⟩, h.cst, h.fn⟩
theorem rv_get {θ : Env} {n : Pt → Prop} {T : Regs} {ρ : Operand → Value} (h : RelR θ n T ρ) {x : Operand} {v : AV} (hv : (rv x).get T = some v) : v.ok θ n ∧ ρ x = v.conc θ := by
  cases x with
  | tmp t => exact h.reg t v hv
  | const c =>
    simp only [rv] at hv
    split at hv
    · rename_i a ha
      simp only [RV.get, Option.some.injEq] at hv
      subst hv
      obtain ⟨h1, h2⟩ := ofV_conc θ n c a ha
      exact ⟨h2, by rw [h.cst, h1]⟩
    · simp [RV.get] at hv
  | func f =>
    simp only [rv, RV.get, Option.some.injEq] at hv
    subst hv
    exact ⟨⟨trivial, trivial⟩, h.fn f⟩
  | global g => simp [rv, RV.get] at hv
theorem rvs_gets {θ : Env} {n : Pt → Prop} {T : Regs} {ρ : Operand → Value} (h : RelR θ n T ρ) : ∀ {xs : List Operand} {l : List AV}, RV.gets T (rvs xs) = some l →
    AV.oks θ n l ∧ xs.map ρ = AV.concs θ l
  | [], l, hl => by simp [rvs, RV.gets] at hl; subst hl; exact ⟨trivial, rfl⟩
  | x :: xs, l, hl => by
    simp only [rvs, RV.gets] at hl
    split at hl
    · cases hl
    · rename_i v hv
      split at hl
      · cases hl
      · rename_i r hr
        injection hl with hl; subst hl
        obtain ⟨h1, h2⟩ := rv_get h hv
        obtain ⟨h3, h4⟩ := rvs_gets h hr
        exact ⟨⟨h1, h3⟩, by simp [AV.concs, h2, h4]⟩
end Go.Eng
namespace Go.Eng
variable {P : Program}

/-- a reading operation -/
def LS (P : Program) (o : Oper) (f : OpF) : Prop := ∀ (T : Regs) (h : AHeap) (θ : Env) (D : Pt → Prop) (W : World) (ρ : Operand → Value),
  HR θ h W → (∀ p, h.D p → D p) → RelR θ D T ρ →
  f T h = .fail ∨ ∃ v, f T h = .val v h ∧ v.ok θ D ∧ (execOp ρ o).run P W = .ok (.value (v.conc θ)) W
/-- what an operation makes of a value -/
def Does (P : Program) (o : Oper) (θ : Env) (D : Pt → Prop) (h : AHeap) (W : World) (ρ : Operand → Value) (r : R) : Prop :=
  r = .fail ∨ ∃ v, r = .val v h ∧ v.ok θ D ∧ (execOp ρ o).run P W = .ok (.value (v.conc θ)) W
structure Ctx (θ : Env) (D : Pt → Prop) (h : AHeap) (W : World) (ρ : Operand → Value) : Prop where
  hr : HR θ h W
  sub : ∀ p, h.D p → D p
  cst : ∀ v, ρ (.const v) = v
def Val1 (P : Program) (o : Oper) (x : Operand) (f : AV → AHeap → R) : Prop := ∀ (θ : Env) (D : Pt → Prop) (h : AHeap) (W : World) (ρ : Operand → Value) (v : AV),
  Ctx θ D h W ρ → v.ok θ D → ρ x = v.conc θ → Does P o θ D h W ρ (f v h)
def Val2 (P : Program) (o : Oper) (x y : Operand) (f : AV → AV → AHeap → R) : Prop := ∀ (θ : Env) (D : Pt → Prop) (h : AHeap) (W : World) (ρ : Operand → Value) (v w : AV),
  Ctx θ D h W ρ → v.ok θ D → w.ok θ D → ρ x = v.conc θ → ρ y = w.conc θ → Does P o θ D h W ρ (f v w h)
def ValN (P : Program) (o : Oper) (xs : List Operand) (f : List AV → AHeap → R) : Prop := ∀ (θ : Env) (D : Pt → Prop) (h : AHeap) (W : World) (ρ : Operand → Value) (l : List AV),
  Ctx θ D h W ρ → AV.oks θ D l → xs.map ρ = AV.concs θ l → Does P o θ D h W ρ (f l h)

theorem LS_un {o : Oper} {x : Operand} {f : AV → AHeap → R} {g : OpF} (h : un x f = .mk g) (hf : Val1 P o x f) : LS P o g := by
  intro T H θ D W ρ hr hsub hrel
  have ctx : Ctx θ D H W ρ := ⟨hr, hsub, hrel.cst⟩
  unfold un at h
  cases hx : rv x with
  | bad => rw [hx] at h; cases h
  | cst v =>
    rw [hx] at h; injection h with h; subst h
    obtain ⟨h1, h2⟩ := rv_get (x := x) (v := v) hrel (by rw [hx]; rfl)
    exact hf θ D H W ρ v ctx h1 h2
  | reg b =>
    rw [hx] at h; injection h with h; subst h
    dsimp only
    cases hb : T.at b with
    | none => exact .inl rfl
    | some v =>
      obtain ⟨h1, h2⟩ := rv_get (x := x) (v := v) hrel (by rw [hx]; exact hb)
      exact hf θ D H W ρ v ctx h1 h2
theorem LS_bi {o : Oper} {x y : Operand} {f : AV → AV → AHeap → R} {g : OpF} (h : bi x y f = .mk g) (hf : Val2 P o x y f) : LS P o g := by
  intro T H θ D W ρ hr hsub hrel
  have ctx : Ctx θ D H W ρ := ⟨hr, hsub, hrel.cst⟩
  unfold bi at h
  have key : ∀ {z : Operand} {v : AV}, (rv z).get T = some v → v.ok θ D ∧ ρ z = v.conc θ := fun hz => rv_get hrel hz
  cases hx : rv x with
  | bad => simp only [hx] at h; cases h
  | cst v =>
    obtain ⟨v1, v2⟩ := key (z := x) (v := v) (by rw [hx]; rfl)
    cases hy : rv y with
    | bad => simp only [hx, hy] at h; cases h
    | cst w =>
      simp only [hx, hy] at h; injection h with h; subst h
      obtain ⟨w1, w2⟩ := key (z := y) (v := w) (by rw [hy]; rfl)
      exact hf θ D H W ρ v w ctx v1 w1 v2 w2
    | reg c =>
      simp only [hx, hy] at h; injection h with h; subst h
      dsimp only
      cases hc : T.at c with
      | none => exact .inl rfl
      | some w =>
        obtain ⟨w1, w2⟩ := key (z := y) (v := w) (by rw [hy]; exact hc)
        exact hf θ D H W ρ v w ctx v1 w1 v2 w2
  | reg b =>
    cases hy : rv y with
    | bad => simp only [hx, hy] at h; cases h
    | cst w =>
      simp only [hx, hy] at h; injection h with h; subst h
      obtain ⟨w1, w2⟩ := key (z := y) (v := w) (by rw [hy]; rfl)
      dsimp only
      cases hb : T.at b with
      | none => exact .inl rfl
      | some v =>
        obtain ⟨v1, v2⟩ := key (z := x) (v := v) (by rw [hx]; exact hb)
        exact hf θ D H W ρ v w ctx v1 w1 v2 w2
    | reg c =>
      simp only [hx, hy] at h; injection h with h; subst h
      dsimp only
      cases hb : T.at b with
      | none => exact .inl rfl
      | some v =>
        obtain ⟨v1, v2⟩ := key (z := x) (v := v) (by rw [hx]; exact hb)
        dsimp only
        cases hc : T.at c with
        | none => exact .inl rfl
        | some w =>
          obtain ⟨w1, w2⟩ := key (z := y) (v := w) (by rw [hy]; exact hc)
          exact hf θ D H W ρ v w ctx v1 w1 v2 w2
theorem LS_many {o : Oper} {xs : List Operand} {f : List AV → AHeap → R} {g : OpF} (h : many (rvs xs) f = .mk g) (hf : ValN P o xs f) : LS P o g := by
  intro T H θ D W ρ hr hsub hrel
  have ctx : Ctx θ D H W ρ := ⟨hr, hsub, hrel.cst⟩
  unfold many at h
  injection h with h; subst h
  dsimp only
  cases hl : RV.gets T (rvs xs) with
  | none => exact .inl rfl
  | some l =>
    obtain ⟨h1, h2⟩ := rvs_gets hrel hl
    exact hf θ D H W ρ l ctx h1 h2

/-! ### The tables -/
theorem sizeT_spec {t : TypeId} {n : Nat} (h : sizeT P t = some n) : (∀ w, (sizeOf t).run P w = .ok n w) ∧ ∃ i, P.info? t = some i ∧ i.size = n := by
  unfold sizeT at h
  cases hi : P.info? t with
  | none => rw [hi] at h; cases h
  | some i =>
    rw [hi] at h
    simp only [Option.map_some, Option.some.injEq] at h
    refine ⟨fun w => ?_, i, rfl, h⟩
    have := run_typeInfo (P := P) (w := w) hi
    simp [sizeOf, this, h]
theorem aggT_spec {t : TypeId} {b : Bool} (h : aggT P t = some b) : ∀ w, (isAgg t).run P w = .ok b w := by
  intro w
  unfold aggT at h
  unfold isAgg
  cases hu : P.underlying t with
  | none => rw [hu] at h; cases h
  | some d =>
    rw [hu] at h
    simp only [Sem.run_bind, run_underlying hu, Result.andThen_ok]
    cases d <;> simp at h <;> subst h <;> rfl

/-! ### Readings -/
theorem cell_at {θ : Env} {h : AHeap} {W : World} (hr : HR θ h W) {b : Pt} {m : Nat} {cs : Q AV} {o : Option Nat} (hb : h.get b = some (.cells m cs o)) {i : Nat} {v : AV}
    (hv : cs.get i = some v) : v.ok θ h.D ∧ v.sc = true ∧ W.cell? ⟨θ.blk b, θ.base b + i, none⟩ = some (v.conc θ) := by
  obtain ⟨c, e, h1, _, h3, _⟩ := hr.obj b _ hb
  obtain ⟨_, a1, a2, a3⟩ := h3 i v hv
  exact ⟨a1, a2, by simp [World.cell?, h1, a3]⟩
theorem addr_add (b o n : Nat) : (⟨b, o, none⟩ : Addr).add n = ⟨b, o + n, none⟩ := by
  unfold Addr.add
  split
  · rename_i e; simp [e]
  · rfl
theorem loadCells_at {θ : Env} {h : AHeap} {W : World} (hr : HR θ h W) {b : Pt} {m : Nat} {cs : Q AV} {o : Option Nat} (hb : h.get b = some (.cells m cs o)) {n off : Nat} {l : List AV}
    (hl : readN cs n off = some l) : AV.oks θ h.D l ∧ allSc l = true ∧ l.length = n ∧ (loadCells ⟨θ.blk b, θ.base b + off, none⟩ n).run P W = .ok ⟨AV.concs θ l⟩ W := by
  obtain ⟨h1, h2⟩ := readN_spec n off cs l hl
  have hcell : ∀ j v, l[j]? = some v → v.ok θ h.D ∧ v.sc = true ∧ W.cell? ⟨θ.blk b, θ.base b + off + j, none⟩ = some (v.conc θ) := by
    intro j v hj
    have hlt : j < n := by
      rw [← h1]; exact (List.getElem?_eq_some_iff.1 hj).1
    have := cell_at hr hb (i := off + j) (v := v) (by rw [h2 j hlt, hj])
    rwa [← Nat.add_assoc] at this
  refine ⟨oks_iff.2 fun v hv => ?_, allSc_iff.2 fun v hv => ?_, h1, ?_⟩
  · obtain ⟨j, hj⟩ := List.getElem?_of_mem hv
    exact (hcell j v hj).1
  · obtain ⟨j, hj⟩ := List.getElem?_of_mem hv
    exact (hcell j v hj).2.1
  · have := run_loadCells_list (P := P) W ⟨θ.blk b, θ.base b + off, none⟩ (AV.concs θ l) (fun j v hj => by
      rw [concs_eq, List.getElem?_map, Option.map_eq_some_iff] at hj
      obtain ⟨a, ha, rfl⟩ := hj
      rw [addr_add]
      exact (hcell j a ha).2.2)
    rw [concs_length, h1] at this
    exact this

theorem does_fail {o : Oper} {θ : Env} {D : Pt → Prop} {h : AHeap} {W : World} {ρ : Operand → Value} : Does P o θ D h W ρ .fail := .inl rfl
theorem does_val {o : Oper} {θ : Env} {D : Pt → Prop} {h : AHeap} {W : World} {ρ : Operand → Value} {v : AV} (hv : v.ok θ D)
    (hrun : (execOp ρ o).run P W = .ok (.value (v.conc θ)) W) : Does P o θ D h W ρ (.val v h) := .inr ⟨v, rfl, hv, hrun⟩
theorem does_vl {o : Oper} {θ : Env} {D : Pt → Prop} {h : AHeap} {W : World} {ρ : Operand → Value} {x : Option AV}
    (hx : ∀ v, x = some v → v.ok θ D ∧ (execOp ρ o).run P W = .ok (.value (v.conc θ)) W) : Does P o θ D h W ρ (.vl x h) := by
  cases x with
  | none => exact .inl rfl
  | some v => exact .inr ⟨v, rfl, (hx v rfl).1, (hx v rfl).2⟩

theorem S_load {o : Oper} {t : TypeId} {a : Operand} {g : OpF} (ho : o.op = .load t a) (h : loadP P t a = .mk g) : LS P o g := by
  unfold loadP at h
  split at h
  · rename_i n ha hs
    obtain ⟨hsz, _⟩ := sizeT_spec hs
    refine LS_un h ?_
    intro θ D H W ρ v ctx hv hρ
    cases v <;> try exact does_fail
    rename_i b off
    simp only [loadN]
    split
    · rename_i m cs op hb
      split
      · rename_i l hl
        obtain ⟨h1, h2, h3, h4⟩ := loadCells_at (P := P) ctx.hr hb hl
        refine does_val ⟨oks_iff.2 fun v hv => ok_mono ctx.sub (oks_iff.1 h1 v hv), h2⟩ ?_
        simp only [execOp, ho, hρ, AV.conc, Instr.loadAt, Instr.sureAddr, loadVar, Sem.run_bind, Sem.run_pure, Result.andThen_ok, aggT_spec ha, hsz, if_true, h4]
      · exact does_fail
    · exact does_fail
  · rename_i ha hs
    refine LS_un h ?_
    intro θ D H W ρ v ctx hv hρ
    cases v <;> try exact does_fail
    rename_i b off
    simp only [load1]
    split
    · rename_i m cs op hb
      split
      · rename_i u hu
        obtain ⟨h1, h2, h3⟩ := cell_at ctx.hr hb hu
        refine does_val (ok_mono ctx.sub h1) ?_
        simp only [execOp, ho, hρ, AV.conc, Instr.loadAt, Instr.sureAddr, loadVar, Sem.run_bind, Sem.run_pure, Result.andThen_ok, aggT_spec ha, Bool.false_eq_true, if_false, run_load, h3]
      · exact does_fail
    · exact does_fail
  · cases h

theorem S_mov {o : Oper} {x : Operand} {g : OpF} (ho : o.op = .move x ∨ o.op = .assign x) (h : movP x = .mk g) : LS P o g := by
  refine LS_un h ?_
  intro θ D H W ρ v ctx hv hρ
  refine does_val hv ?_
  rcases ho with ho | ho <;> simp only [execOp, ho, hρ, Sem.run_pure]

theorem S_pick {o : Oper} {c a b : Operand} {g : OpF} (ho : o.op = .pick c a b) (h : pickP c a b = .mk g) : LS P o g := by
  intro T H θ D W ρ hr hsub hrel
  unfold pickP at h
  injection h with h; subst h
  dsimp only
  split
  · rename_i hc
    obtain ⟨_, hc⟩ := rv_get hrel hc
    refine does_vl fun v hv => ?_
    obtain ⟨h1, h2⟩ := rv_get hrel hv
    refine ⟨h1, ?_⟩
    simp only [execOp, ho, hc, AV.conc, asBool, Sem.run_bind, Sem.run_pure, Result.andThen_ok, if_true, h2]
  · rename_i hc
    obtain ⟨_, hc⟩ := rv_get hrel hc
    refine does_vl fun v hv => ?_
    obtain ⟨h1, h2⟩ := rv_get hrel hv
    refine ⟨h1, ?_⟩
    simp only [execOp, ho, hc, AV.conc, asBool, Sem.run_bind, Sem.run_pure, Result.andThen_ok, Bool.false_eq_true, if_false, h2]
  · exact does_fail

theorem S_nilCheck {o : Oper} {x : Operand} {g : OpF} (ho : o.op = .nilCheck x) (h : un x nilD = .mk g) : LS P o g := by
  refine LS_un h ?_
  intro θ D H W ρ v ctx hv hρ
  cases v <;> try exact does_fail
  · refine does_val hv ?_
    simp only [execOp, ho, hρ, AV.conc, Sem.run_pure]
  · refine does_val hv ?_
    simp only [execOp, ho, hρ, AV.conc, Sem.run_pure]

theorem S_extract {o : Oper} {x : Operand} {i : Nat} {g : OpF} (ho : o.op = .extract x i) (h : un x (extractD i) = .mk g) : LS P o g := by
  refine LS_un h ?_
  intro θ D H W ρ v ctx hv hρ
  cases v <;> try exact does_fail
  rename_i vs
  refine does_vl fun u hu => ?_
  rw [nthF_eq] at hu
  refine ⟨oks_iff.1 hv u (List.mem_of_getElem? hu), ?_⟩
  have : (⟨AV.concs θ vs⟩ : Array Value)[i]? = some (u.conc θ) := by simp [concs_eq, hu]
  simp only [execOp, ho, hρ, AV.conc, Instr.extract, this, Sem.run_bind, Sem.run_pure, Result.andThen_ok]

theorem S_not {o : Oper} {t : TypeId} {x : Operand} {g : OpF} (ho : o.op = .unOp .not t x) (h : un x notD = .mk g) : LS P o g := by
  refine LS_un h ?_
  intro θ D H W ρ v ctx hv hρ
  cases v <;> try exact does_fail
  rename_i b
  cases b <;> (refine does_val trivial ?_; simp only [execOp, ho, hρ, AV.conc, Op.unary, Sem.run_bind, Sem.run_pure, Result.andThen_ok, Bool.not_true, Bool.not_false])
theorem S_neg {o : Oper} {t : TypeId} {x : Operand} {g : OpF} (ho : o.op = .unOp .neg t x) (h : un x negD = .mk g) : LS P o g := by
  refine LS_un h ?_
  intro θ D H W ρ v ctx hv hρ
  cases v <;> try exact does_fail
  refine does_val trivial ?_
  simp only [execOp, ho, hρ, AV.conc, Op.unary, Op.intArith, Sem.run_bind, Sem.run_pure, Result.andThen_ok]
theorem S_iface {o : Oper} {t : TypeId} {x : Operand} {g : OpF} (ho : o.op = .makeInterface t x) (h : ifaceP P t x = .mk g) : LS P o g := by
  unfold ifaceP at h
  split at h
  · cases h
  · rename_i d hd hu
    refine LS_un h ?_
    intro θ D H W ρ v ctx hv hρ
    refine does_val hv ?_
    simp only [execOp, ho, hρ, AV.conc, Instr.makeInterface, Sem.run_bind, Sem.run_pure, Result.andThen_ok, run_underlying hu]
  · cases h
theorem S_fn {o : Oper} {f : Fn} {a b : Array Operand} {g : OpF} (ho : o.op = .makeFunc f a b) (h : fnP f a.toList b.toList = .mk g) : LS P o g := by
  unfold fnP at h
  split at h
  · injection h with h; subst h
    intro T H θ D W ρ hr hsub hrel
    dsimp only
    split
    · rename_i la lb ha hb
      obtain ⟨a1, a2⟩ := rvs_gets hrel ha
      obtain ⟨b1, b2⟩ := rvs_gets hrel hb
      refine does_val ⟨a1, b1⟩ ?_
      have ea : a.map ρ = ⟨AV.concs θ la⟩ := by rw [← a2]; apply Array.ext'; simp
      have eb : b.map ρ = ⟨AV.concs θ lb⟩ := by rw [← b2]; apply Array.ext'; simp
      simp only [execOp, ho, AV.conc, Instr.makeFunc, Sem.run_bind, Sem.run_pure, Result.andThen_ok, ea, eb]
    · exact does_fail
  · cases h
end Go.Eng
namespace Go.Eng
variable {P : Program}

/-! ### Integers, equality -/
theorem sameK_spec : ∀ {j k : IntKind}, sameK j k = true → j = k := by intro j k; cases j <;> cases k <;> simp [sameK]
theorem eqI_eq (a b : Int) : eqI a b = (a == b) := by
  have h : eqI a b = true ↔ (a == b) = true := by
    rw [beq_iff_eq]
    cases a <;> cases b <;> simp [eqI]
    omega
  cases h1 : eqI a b <;> cases h2 : (a == b) <;> simp_all
theorem ltI_eq (a b : Int) : ltI a b = decide (a < b) := by
  have h : ltI a b = true ↔ a < b := by
    cases a <;> cases b <;> simp [ltI] <;> omega
  cases h1 : ltI a b
  · have : ¬ a < b := fun e => by rw [h.2 e] at h1; cases h1
    simp [this]
  · simp [h.1 h1]

/-! flat structs -/
theorem flatFields_cons {f : Field} {fs : List Field} {i : Nat} (h : flatFields P (f :: fs) i = true) :
    f.offset = i ∧ f.name ≠ "_" ∧ (∃ k, P.underlying f.type = some (.int k)) ∧ flatFields P fs (i + 1) = true := by
  simp only [flatFields, Bool.and_eq_true, bne_iff_ne, ne_eq] at h
  obtain ⟨⟨⟨h1, h2⟩, h3⟩, h4⟩ := h
  refine ⟨Nat.eq_of_beq_eq_true h1, h2, ?_, h4⟩
  split at h3
  · rename_i k hk; exact ⟨k, hk⟩
  · cases h3
theorem run_part_int {t : TypeId} {k : IntKind} (hu : P.underlying t = some (.int k)) (xs : Array Value) (i : Nat) (v : Value) (hv : xs[i]? = some v) (w : World) :
    (part t xs i).run P w = .ok v w := by
  have : (isAgg t).run P w = .ok false w := by simp [isAgg, run_underlying hu]
  simp only [part, Sem.run_bind, this, Result.andThen_ok, Bool.false_eq_true, if_false, hv, Sem.run_pure]
theorem eqIs_run (θ : Env) (d : Nat) (w : World) : ∀ (fs : List Field) (i : Nat) (as bs : List AV) (r : Bool) (xs ys : Array Value), eqIs fs.length as bs = some r → flatFields P fs i = true →
    (∀ j, xs[i + j]? = (AV.concs θ as)[j]?) → (∀ j, ys[i + j]? = (AV.concs θ bs)[j]?) → (Op.eqFields (d + 1) xs ys fs).run P w = .ok r w
  | [], i, as, bs, r, xs, ys, h, hf, hx, hy => by
    cases as <;> cases bs <;> simp [eqIs] at h
    subst h; simp [Op.eqFields]
  | f :: fs, i, as, bs, r, xs, ys, h, hf, hx, hy => by
    obtain ⟨h1, h2, ⟨k, h3⟩, h4⟩ := flatFields_cons hf
    cases as with
    | nil => simp [eqIs] at h
    | cons a as =>
      cases bs with
      | nil => cases a <;> simp [eqIs] at h
      | cons b bs =>
        cases a <;> simp only [List.length_cons, eqIs, reduceCtorEq] at h
        rename_i j m
        cases b <;> simp only [eqIs, reduceCtorEq] at h
        rename_i j' n
        split at h
        · rename_i hk
          have hk := sameK_spec hk
          subst hk
          split at h
          · rename_i r' hr
            injection h with h; subst h
            have hx0 := hx 0
            have hy0 := hy 0
            simp only [Nat.add_zero, AV.concs, AV.conc, List.getElem?_cons_zero] at hx0 hy0
            have ih := eqIs_run θ d w fs (i + 1) as bs r' xs ys hr h4 (fun j => by have := hx (j + 1); simpa [Nat.add_assoc, Nat.add_comm 1 j, AV.concs] using this)
              (fun j => by have := hy (j + 1); simpa [Nat.add_assoc, Nat.add_comm 1 j, AV.concs] using this)
            rw [Op.eqFields, if_pos h2]
            simp only [Sem.run_bind, h1, run_part_int h3 xs i _ hx0, run_part_int h3 ys i _ hy0, Result.andThen_ok, run_equalIn_int w d f.type j k m n h3, eqI_eq]
            cases hmn : (m == n)
            · simp
            · simp [ih]
          · cases h
        · cases h
theorem flatT_spec {t : TypeId} {n : Nat} (h : flatT P t = some n) : ∃ fs, P.underlying t = some (.struct fs) ∧ flatFields P fs.toList 0 = true ∧ P.stoodInHeld t = false ∧
    P.eqGuardType P.depth t = false ∧ n = fs.toList.length := by
  unfold flatT at h
  split at h
  · rename_i fs hu
    split at h
    · rename_i hc
      injection h with h
      simp only [Bool.and_eq_true, Bool.not_eq_true'] at hc
      exact ⟨fs, hu, hc.1.1, hc.1.2, hc.2, by rw [← h, lenF_eq]⟩
    · cases h
  · cases h
theorem eqFlat_run {θ : Env} {t : TypeId} {n d : Nat} {m k : List AV} {r : Bool} (hf : flatT P t = some n) (h : eqIs n m k = some r) (w : World) :
    (Op.equalIn (d + 2) t (.agg ⟨AV.concs θ m⟩) (.agg ⟨AV.concs θ k⟩)).run P w = .ok r w := by
  obtain ⟨fs, h1, h2, h3, h4, h5⟩ := flatT_spec hf
  have hfs : P.fieldsOf t = fs := by simp [Program.fieldsOf, h1]
  rw [run_equalIn_struct w (d + 1) t _ _ (by rw [hfs]; exact h1) h3, hfs]
  exact eqIs_run θ d w fs.toList 0 m k r _ _ (h5 ▸ h) h2 (fun j => by simp) (fun j => by simp)

/-- '==' at one of the sorts -/
theorem eqK_run {θ : Env} {t : TypeId} {lit : Bool} {v u : AV} {r : Bool} (h : eqOf lit (eqK P t) v u = some r) (x y : Operand) (hl : lit = (isCst x || isCst y)) (w : World) (op : BinOp) :
    (eqGuard op t x y (v.conc θ) (u.conc θ)).run P w = .ok () w ∧
    (binOp .eql t (v.conc θ) (u.conc θ)).run P w = .ok (.bool r) w ∧ (binOp .neq t (v.conc θ) (u.conc θ)).run P w = .ok (.bool (!r)) w := by
  have mk : ∀ {a b : Value}, (∀ d, (Op.equalIn (d + 2) t a b).run P w = .ok r w) → (binOp .eql t a b = (do pure (.bool (← Op.equal t a b)))) →
      (binOp .neq t a b = (do pure (.bool (!(← Op.equal t a b))))) →
      (binOp .eql t a b).run P w = .ok (.bool r) w ∧ (binOp .neq t a b).run P w = .ok (.bool (!r)) w := by
    intro a b he h1 h2
    have := he 9998
    rw [h1, h2]
    constructor <;> simp [Op.equal, Op.maxDepth, this]
  unfold eqK at h
  cases hu : P.underlying t with
  | none => simp [hu, eqOf] at h
  | some d =>
    cases d <;> simp only [hu, eqOf, reduceCtorEq] at h
    case bool =>
      unfold eqBool at h
      split at h <;> first | (injection h with h; subst h) | cases h
      exact ⟨by cases op <;> simp [eqGuard, AV.conc], mk (fun d => by unfold Op.equalIn; simp only [AV.conc, Sem.run_bind, run_underlying hu, Result.andThen_ok]; rfl) rfl rfl⟩
    case string =>
      unfold eqStr at h
      split at h <;> first | (injection h with h; subst h) | cases h
      exact ⟨by cases op <;> simp [eqGuard, AV.conc], by simp [AV.conc, binOp, Op.stringOp], by simp [AV.conc, binOp, Op.stringOp]⟩
    case pointer e =>
      unfold eqPtr at h
      split at h <;> first | (injection h with h; subst h) | cases h
      all_goals exact ⟨by cases op <;> simp [eqGuard, AV.conc], mk (fun d => by unfold Op.equalIn; simp only [AV.conc, Sem.run_bind, run_underlying hu, Result.andThen_ok]; rfl) rfl rfl⟩
    case slice e =>
      unfold eqSl at h
      split at h <;> first | (injection h with h; subst h) | cases h
      all_goals exact ⟨by cases op <;> simp [eqGuard, AV.conc], mk (fun d => by unfold Op.equalIn; simp only [AV.conc, Sem.run_bind, run_underlying hu, Result.andThen_ok]; rfl) rfl rfl⟩
    case map k e =>
      unfold eqMp at h
      split at h <;> first | (injection h with h; subst h) | cases h
      all_goals exact ⟨by cases op <;> simp [eqGuard, AV.conc], mk (fun d => by unfold Op.equalIn; simp only [AV.conc, Sem.run_bind, run_underlying hu, Result.andThen_ok]; rfl) rfl rfl⟩
    case func a b c =>
      unfold eqFn at h
      split at h <;> first | (injection h with h; subst h) | cases h
      all_goals exact ⟨by cases op <;> simp [eqGuard, AV.conc], mk (fun d => by unfold Op.equalIn; simp only [AV.conc, Sem.run_bind, run_underlying hu, Result.andThen_ok]; rfl) rfl rfl⟩
    case interface ms =>
      unfold eqIfc at h
      split at h
      · split at h
        · rename_i hlit
          injection h with h; subst h
          have hc : (isCst x || isCst y) = true := hl.symm
          refine ⟨?_, mk (fun d => by unfold Op.equalIn; simp only [AV.conc, Sem.run_bind, run_underlying hu, Result.andThen_ok]; rfl) rfl rfl⟩
          cases op <;> simp only [eqGuard, AV.conc] <;> cases x <;> cases y <;> first | rfl | (simp [isCst] at hc; done) | simp
        · cases h
      · injection h with h; subst h
        exact ⟨by cases op <;> simp [eqGuard, AV.conc], mk (fun d => by unfold Op.equalIn; simp only [AV.conc, Sem.run_bind, run_underlying hu, Result.andThen_ok]; rfl) rfl rfl⟩
      · injection h with h; subst h
        exact ⟨by cases op <;> simp [eqGuard, AV.conc], mk (fun d => by unfold Op.equalIn; simp only [AV.conc, Sem.run_bind, run_underlying hu, Result.andThen_ok]; rfl) rfl rfl⟩
      · cases h
    case struct fs =>
      cases hf : flatT P t with
      | none => simp only [hf] at h; cases h
      | some n =>
        simp only [hf] at h
        unfold eqFlat at h
        split at h
        case h_2 => cases h
        rename_i m k
        obtain ⟨_, _, _, _, h4, _⟩ := flatT_spec hf
        exact ⟨run_eqGuard_agg w op t x y _ _ h4, mk (fun d => eqFlat_run hf h w) rfl rfl⟩

theorem S_bin {o : Oper} {op : BinOp} {t ty : TypeId} {x y : Operand} {g : OpF} (ho : o.op = .binOp op t x y ty) (h : binP P op t x y = .mk g) : LS P o g := by
  have fin : ∀ {θ : Env} {D : Pt → Prop} {H : AHeap} {W : World} {ρ : Operand → Value} {v : AV}, v.ok θ D → (eqGuard op t x y (ρ x) (ρ y)).run P W = .ok () W →
      (binOp op t (ρ x) (ρ y)).run P W = .ok (v.conc θ) W → Does P o θ D H W ρ (.val v H) := by
    intro θ D H W ρ v hv h1 h2
    refine does_val hv ?_
    simp only [execOp, ho, Sem.run_bind, h1, h2, Result.andThen_ok, Sem.run_pure]
  -- two integers, or else
  have ints_ok : ∀ {f : IntKind → Int → Int → AHeap → R} {k : AV → AV → AHeap → R},
      (∀ (θ : Env) (D : Pt → Prop) (H : AHeap) (W : World) (ρ : Operand → Value) (j : IntKind) (a b : Int), Ctx θ D H W ρ → ρ x = .int j a → ρ y = .int j b →
        (eqGuard op t x y (ρ x) (ρ y)).run P W = .ok () W → Does P o θ D H W ρ (f j a b H)) →
      (∀ (θ : Env) (D : Pt → Prop) (H : AHeap) (W : World) (ρ : Operand → Value) (v w : AV), Ctx θ D H W ρ → v.ok θ D → w.ok θ D → ρ x = v.conc θ → ρ y = w.conc θ → Does P o θ D H W ρ (k v w H)) →
      Val2 P o x y (ints f k) := by
    intro f k h1 h2 θ D H W ρ v w ctx hv hw ex ey
    unfold ints
    split
    · rename_i j a
      split
      · rename_i j' b
        split
        · rename_i hk
          have := sameK_spec hk; subst this
          refine h1 θ D H W ρ j a b ctx ex ey ?_
          rw [ex, ey]
          cases op <;> simp [eqGuard, AV.conc]
        · exact does_fail
      · exact does_fail
    · exact h2 θ D H W ρ v w ctx hv hw ex ey
  have no_ok : ∀ (θ : Env) (D : Pt → Prop) (H : AHeap) (W : World) (ρ : Operand → Value) (v w : AV), Ctx θ D H W ρ → v.ok θ D → w.ok θ D → ρ x = v.conc θ → ρ y = w.conc θ → Does P o θ D H W ρ (noD v w H) :=
    fun _ _ _ _ _ _ _ _ _ _ _ _ => does_fail
  unfold binP at h
  cases op <;> simp only [] at h
  case add =>
    refine LS_bi h (ints_ok (fun θ D H W ρ j a b _ ex ey hg => fin trivial hg (by rw [ex, ey]; simp [binOp, Op.intArith, AV.conc])) ?_)
    intro θ D H W ρ v w ctx hv hw ex ey
    unfold addD
    split
    · rename_i m n
      cases hb : Nat.blt (m.size + n.size) 1000000
      · exact does_fail
      · refine fin trivial ?_ ?_
        · rw [ex, ey]; simp [eqGuard, AV.conc]
        · rw [ex, ey]
          have hlt : m.size + n.size < 1000000 := by simpa using hb
          have : ¬ (((m.size + n.size : Nat) : Int) > IntKind.i64.max) := by
            have e : IntKind.i64.max = 9223372036854775807 := by decide
            rw [e]; omega
          simp only [AV.conc, binOp, Op.stringOp]
          rw [if_neg this]
          simp
    · exact does_fail
  case sub => exact LS_bi h (ints_ok (fun θ D H W ρ j a b _ ex ey hg => fin trivial hg (by rw [ex, ey]; simp [binOp, Op.intArith, AV.conc])) no_ok)
  case mul => exact LS_bi h (ints_ok (fun θ D H W ρ j a b _ ex ey hg => fin trivial hg (by rw [ex, ey]; simp [binOp, Op.intArith, AV.conc])) no_ok)
  case quo =>
    refine LS_bi h (ints_ok (fun θ D H W ρ j a b _ ex ey hg => ?_) no_ok)
    cases hb : eqI b 0
    · refine fin trivial hg ?_
      rw [eqI_eq, beq_eq_false_iff_ne] at hb
      rw [ex, ey]; simp [binOp, Op.intDiv, hb, AV.conc]
    · exact does_fail
  case rem =>
    refine LS_bi h (ints_ok (fun θ D H W ρ j a b _ ex ey hg => ?_) no_ok)
    cases hb : eqI b 0
    · refine fin trivial hg ?_
      rw [eqI_eq, beq_eq_false_iff_ne] at hb
      rw [ex, ey]; simp [binOp, Op.intDiv, hb, AV.conc]
    · exact does_fail
  case and => exact LS_bi h (ints_ok (fun θ D H W ρ j a b _ ex ey hg => fin trivial hg (by rw [ex, ey]; simp [binOp, Op.intBits, AV.conc])) no_ok)
  case or => exact LS_bi h (ints_ok (fun θ D H W ρ j a b _ ex ey hg => fin trivial hg (by rw [ex, ey]; simp [binOp, Op.intBits, AV.conc])) no_ok)
  case xor => exact LS_bi h (ints_ok (fun θ D H W ρ j a b _ ex ey hg => fin trivial hg (by rw [ex, ey]; simp [binOp, Op.intBits, AV.conc])) no_ok)
  case andNot => exact LS_bi h (ints_ok (fun θ D H W ρ j a b _ ex ey hg => fin trivial hg (by rw [ex, ey]; simp [binOp, Op.intBits, AV.conc])) no_ok)
  case shl =>
    refine LS_bi h ?_
    intro θ D H W ρ v w ctx hv hw ex ey
    unfold shiftD
    split
    · rename_i k a
      split
      · rename_i j n
        refine fin trivial ?_ ?_
        · rw [ex, ey]; simp [eqGuard, AV.conc]
        · rw [ex, ey]
          have hn : ¬ ((n : Int) < 0) := by omega
          simp [AV.conc, binOp, Op.shift, hn]
      · exact does_fail
    · exact does_fail
  case shr =>
    refine LS_bi h ?_
    intro θ D H W ρ v w ctx hv hw ex ey
    unfold shiftD
    split
    · rename_i k a
      split
      · rename_i j n
        refine fin trivial ?_ ?_
        · rw [ex, ey]; simp [eqGuard, AV.conc]
        · rw [ex, ey]
          have hn : ¬ ((n : Int) < 0) := by omega
          simp [AV.conc, binOp, Op.shift, hn]
      · exact does_fail
    · exact does_fail
  case eql =>
    refine LS_bi h (ints_ok (fun θ D H W ρ j a b _ ex ey hg => ?_) ?_)
    · have : R.bool (eqI a b) H = .val (.bool (a == b)) H := by rw [eqI_eq]; cases (a == b) <;> rfl
      rw [this]
      exact fin trivial hg (by rw [ex, ey]; simp [binOp, Op.intCmp, AV.conc])
    · intro θ D H W ρ v w ctx hv hw ex ey
      unfold eqD
      split
      · rename_i r hr
        obtain ⟨h1, h2, h3⟩ := eqK_run (θ := θ) hr x y rfl W .eql
        have : R.bool (false ^^ r) H = .val (.bool r) H := by cases r <;> rfl
        rw [this]
        exact fin trivial (by rw [ex, ey]; exact h1) (by rw [ex, ey]; exact h2)
      · exact does_fail
  case neq =>
    refine LS_bi h (ints_ok (fun θ D H W ρ j a b _ ex ey hg => ?_) ?_)
    · have : R.bool (!eqI a b) H = .val (.bool (a != b)) H := by
        have e : (a != b) = !(a == b) := rfl
        rw [eqI_eq, e]; cases (a == b) <;> rfl
      rw [this]
      exact fin trivial hg (by rw [ex, ey]; simp [binOp, Op.intCmp, AV.conc])
    · intro θ D H W ρ v w ctx hv hw ex ey
      unfold eqD
      split
      · rename_i r hr
        obtain ⟨h1, h2, h3⟩ := eqK_run (θ := θ) hr x y rfl W .neq
        have : R.bool (true ^^ r) H = .val (.bool (!r)) H := by cases r <;> rfl
        rw [this]
        exact fin trivial (by rw [ex, ey]; exact h1) (by rw [ex, ey]; exact h3)
      · exact does_fail
  case lss =>
    refine LS_bi h (ints_ok (fun θ D H W ρ j a b _ ex ey hg => ?_) no_ok)
    have : R.bool (ltI a b) H = .val (.bool (decide (a < b))) H := by rw [ltI_eq]; cases (decide (a < b)) <;> rfl
    rw [this]
    exact fin trivial hg (by rw [ex, ey]; simp [binOp, Op.intCmp, AV.conc])
  case leq =>
    refine LS_bi h (ints_ok (fun θ D H W ρ j a b _ ex ey hg => ?_) no_ok)
    have : R.bool (!ltI b a) H = .val (.bool (decide (a ≤ b))) H := by
      rw [ltI_eq, show (!decide (b < a)) = decide (a ≤ b) by by_cases e : a ≤ b <;> simp [e] <;> omega]; cases (decide (a ≤ b)) <;> rfl
    rw [this]
    exact fin trivial hg (by rw [ex, ey]; simp [binOp, Op.intCmp, AV.conc])
  case gtr =>
    refine LS_bi h (ints_ok (fun θ D H W ρ j a b _ ex ey hg => ?_) no_ok)
    have : R.bool (ltI b a) H = .val (.bool (decide (a > b))) H := by rw [ltI_eq]; show R.bool (decide (a > b)) H = _; cases (decide (a > b)) <;> rfl
    rw [this]
    exact fin trivial hg (by rw [ex, ey]; simp [binOp, Op.intCmp, AV.conc])
  case geq =>
    refine LS_bi h (ints_ok (fun θ D H W ρ j a b _ ex ey hg => ?_) no_ok)
    have : R.bool (!ltI a b) H = .val (.bool (decide (a ≥ b))) H := by
      rw [ltI_eq, show (!decide (a < b)) = decide (a ≥ b) by by_cases e : a ≥ b <;> simp [e] <;> omega]; cases (decide (a ≥ b)) <;> rfl
    rw [this]
    exact fin trivial hg (by rw [ex, ey]; simp [binOp, Op.intCmp, AV.conc])
end Go.Eng
namespace Go.Eng
variable {P : Program}

theorem zeroT_spec {t : TypeId} {z : AV} (h : zeroT P t = some z) : ∃ v, (∀ w, (zeroValue t).run P w = .ok v w) ∧ ofV v = some z ∧ ∃ i, P.info? t = some i ∧ i.zero = some v := by
  unfold zeroT at h
  split at h
  · rename_i i hi
    split at h
    · rename_i v hv
      refine ⟨v, fun w => ?_, h, i, hi, hv⟩
      simp only [zeroValue, Sem.run_bind, run_typeInfo (P := P) (w := w) hi, Result.andThen_ok, hv, Sem.run_pure]
    · cases h
  · cases h
theorem zeroC_spec {t : TypeId} {z : List AV} (h : zeroC P t = some z) (θ : Env) (D : Pt → Prop) : ∃ v, (∀ w, (zeroValue t).run P w = .ok v w) ∧ v.cells = ⟨AV.concs θ z⟩ ∧
    AV.oks θ D z ∧ allSc z = true := by
  unfold zeroC at h
  split at h
  · rename_i a ha
    obtain ⟨v, h1, h2, _⟩ := zeroT_spec ha
    obtain ⟨h3, h4⟩ := ofV_conc θ D v a h2
    obtain ⟨h5, h6, h7⟩ := flat_spec h h4
    exact ⟨v, h1, by rw [← h3]; exact h5, h6, h7⟩
  · cases h

/-! ### Conversions -/
theorem bytesOfA_spec (θ : Env) (f : Value → ByteArray → Sem (ForInStep ByteArray)) (hf : ∀ n r, f (.int .u8 n) r = pure (ForInStep.yield (r.push (UInt8.ofNat n.toNat)))) :
    ∀ (l : List AV) (bs : List UInt8), bytesOfA l = some bs → ∀ (acc : ByteArray) (w : World), (forIn (AV.concs θ l) acc f).run P w = .ok ⟨acc.data ++ ⟨bs⟩⟩ w
  | [], bs, h, acc, w => by
    simp only [bytesOfA, Option.some.injEq] at h
    subst h
    simp [AV.concs]
  | v :: l, bs, h, acc, w => by
    unfold bytesOfA at h
    split at h
    · cases ‹_ :: _ = []›
    · rename_i n l' e
      injection e with e1 e2
      subst e1; subst e2
      split at h
      · rename_i r hr
        injection h with h; subst h
        have ih := bytesOfA_spec θ f hf l r hr (acc.push (UInt8.ofNat n.toNat)) w
        simp only [AV.concs, AV.conc, List.forIn_cons, hf, Sem.run_bind, Sem.run_pure, Result.andThen_ok]
        rw [ih]
        congr 1
        congr 1
        apply Array.ext'
        simp [ByteArray.push]
      · cases h
    · cases h
theorem S_conv {o : Oper} {s d : TypeId} {x : Operand} {g : OpF} (ho : o.op = .convert s d x) (h : convP P s d x = .mk g) : LS P o g := by
  unfold convP at h
  split at h
  · rename_i k hd
    split at h
    · rename_i sd hs
      refine LS_un h ?_
      intro θ D H W ρ v ctx hv hρ
      unfold toIntD
      split
      · rename_i k' n
        refine does_val trivial ?_
        simp only [execOp, ho, hρ, AV.conc, Go.convert, Sem.run_bind, run_underlying hs, run_underlying hd, Result.andThen_ok]
        cases sd <;> rfl
      · exact does_fail
    · cases h
  · rename_i hd
    split at h
    · rename_i e hs
      split at h
      · rename_i he
        refine LS_un h ?_
        intro θ D H W ρ v ctx hv hρ
        unfold toStrD
        split
        · refine does_val trivial ?_
          simp only [execOp, ho, hρ, AV.conc, Go.convert, Sem.run_bind, run_underlying hs, run_underlying hd, run_underlying he, Result.andThen_ok]
          rfl
        · rename_i b off len c
          split
          · rename_i m cs op hb
            split
            · rename_i l hl
              split
              · rename_i bs hbs
                obtain ⟨_, _, _, h4⟩ := loadCells_at (P := P) ctx.hr hb hl
                refine does_val trivial ?_
                simp only [execOp, ho, hρ, AV.conc, Go.convert, Sem.run_bind, run_underlying hs, run_underlying hd, run_underlying he, Result.andThen_ok, Conv.bytesToString, h4]
                rw [← Array.forIn_toList]
                simp only
                rw [bytesOfA_spec (P := P) θ _ (fun _ _ => rfl) l bs hbs .empty W]
                simp [ByteArray.empty, ByteArray.emptyWithCapacity]
                rfl
              · exact does_fail
            · exact does_fail
          · exact does_fail
        · exact does_fail
      · cases h
    · cases h
  · cases h

/-! ### Parts -/
theorem S_fieldAddr {o : Oper} {s : TypeId} {x : Operand} {f : Nat} {g : OpF} (ho : o.op = .fieldAddr s x f) (h : fieldAddrP P s x f = .mk g) : LS P o g := by
  unfold fieldAddrP at h
  split at h
  · rename_i fs hu
    split at h
    · rename_i fd hf
      rw [nthF_eq] at hf
      split at h
      · rename_i n hs
        obtain ⟨hsz, _⟩ := sizeT_spec hs
        refine LS_un h ?_
        intro θ D H W ρ v ctx hv hρ
        unfold fieldAddrD
        split
        · rename_i b off
          refine does_val hv ?_
          have hf' : fs[f]? = some fd := by rw [← hf]; simp
          simp only [execOp, ho, hρ, AV.conc, Instr.fieldAt, Sem.run_bind, run_underlying hu, Result.andThen_ok, hf', Instr.sureAddr, Sem.run_pure, fieldPlace, hsz, Nat.add_one_ne_zero, if_false, addr_add, Nat.add_assoc]
        · exact does_fail
      · cases h
    · cases h
  · cases h
theorem S_field {o : Oper} {t : TypeId} {x : Operand} {f : Nat} {g : OpF} (ho : o.op = .field t x f) (h : fieldP P t x f = .mk g) : LS P o g := by
  unfold fieldP at h
  split at h
  · rename_i fs hu
    split at h
    · rename_i fd hf
      have hf' : fs[f]? = some fd := by rw [nthF_eq] at hf; rw [← hf]; simp
      split at h
      · rename_i n ha hs
        obtain ⟨hsz, _⟩ := sizeT_spec hs
        refine LS_un h ?_
        intro θ D H W ρ v ctx hv hρ
        unfold partN
        split
        · rename_i cs
          split
          · rename_i l hl
            obtain ⟨h1, h2⟩ := takeF_spec _ _ _ hl
            rw [dropF_eq] at h1 h2
            have hmem : ∀ v ∈ l, v ∈ cs := fun v hv => by rw [h2] at hv; exact List.mem_of_mem_drop (List.mem_of_mem_take hv)
            refine does_val ⟨oks_iff.2 fun v hv' => oks_iff.1 hv.1 v (hmem v hv'), allSc_iff.2 fun v hv' => allSc_iff.1 hv.2 v (hmem v hv')⟩ ?_
            simp only [execOp, ho, hρ, AV.conc, Instr.field, Sem.run_bind, run_underlying hu, Result.andThen_ok, hf', asAgg, Sem.run_pure, part, aggT_spec ha, if_true, hsz]
            congr 1
            congr 1
            congr 1
            apply Array.ext'
            rw [h2]
            simp [concs_eq]
          · exact does_fail
        · exact does_fail
      · rename_i n ha hs
        refine LS_un h ?_
        intro θ D H W ρ v ctx hv hρ
        unfold part1
        split
        · rename_i cs
          refine does_vl fun u hu' => ?_
          rw [nthF_eq] at hu'
          refine ⟨oks_iff.1 hv.1 u (List.mem_of_getElem? hu'), ?_⟩
          have hx : (⟨AV.concs θ cs⟩ : Array Value)[fd.offset]? = some (u.conc θ) := by simp [concs_eq, hu']
          simp only [execOp, ho, hρ, AV.conc, Instr.field, Sem.run_bind, run_underlying hu, Result.andThen_ok, hf', asAgg, Sem.run_pure, part, aggT_spec ha, Bool.false_eq_true, if_false, hx]
        · exact does_fail
      · cases h
    · cases h
  · cases h
theorem S_indexAddr {o : Oper} {t : TypeId} {x i : Operand} {g : OpF} (ho : o.op = .indexAddr t x i) (h : indexAddrP P t x i = .mk g) : LS P o g := by
  unfold indexAddrP at h
  split at h
  · rename_i n e hu
    split at h
    · rename_i sz hs
      obtain ⟨hsz, _⟩ := sizeT_spec hs
      refine LS_bi h ?_
      intro θ D H W ρ v w ctx hv hw ex ei
      unfold indexAddrArr
      split
      · rename_i b off
        split
        · rename_i k m
          split
          · rename_i hlt
            have hlt : m < n := by simpa using hlt
            refine does_val hv ?_
            have h1 : (0 : Int) ≤ Int.ofNat m ∧ Int.ofNat m < (n : Int) := ⟨Int.natCast_nonneg m, by simpa using hlt⟩
            simp only [execOp, ho, ex, ei, AV.conc, Instr.indexAt, asIntOf, Sem.run_bind, run_underlying hu, Result.andThen_ok, Instr.sureAddr, Sem.run_pure]
            rw [if_pos h1]
            simp only [Sem.run_bind, hsz, Result.andThen_ok, Sem.run_pure, addr_add, Nat.add_assoc]
            rfl
          · exact does_fail
        · exact does_fail
      · exact does_fail
    · cases h
  · rename_i e hu
    split at h
    · rename_i sz hs
      obtain ⟨hsz, _⟩ := sizeT_spec hs
      refine LS_bi h ?_
      intro θ D H W ρ v w ctx hv hw ex ei
      unfold indexAddrSl
      split
      · rename_i b off n c
        split
        · rename_i k m
          split
          · rename_i hlt
            have hlt : m < n := by simpa using hlt
            refine does_val hv.1 ?_
            have h1 : (0 : Int) ≤ Int.ofNat m ∧ Int.ofNat m < (n : Int) := ⟨Int.natCast_nonneg m, by simpa using hlt⟩
            simp only [execOp, ho, ex, ei, AV.conc, Instr.indexAt, asIntOf, Sem.run_bind, run_underlying hu, Result.andThen_ok, Sem.run_pure]
            rw [if_pos h1]
            simp only [Sem.run_bind, hsz, Result.andThen_ok, Sem.run_pure, addr_add, Nat.add_assoc]
            rfl
          · exact does_fail
        · exact does_fail
      · exact does_fail
    · cases h
  · cases h
theorem S_index {o : Oper} {t : TypeId} {x i : Operand} {g : OpF} (ho : o.op = .index t x i) (h : indexP P t x i = .mk g) : LS P o g := by
  unfold indexP at h
  split at h
  · rename_i n e hu
    split at h
    · rename_i ha hs
      obtain ⟨hsz, _⟩ := sizeT_spec hs
      refine LS_bi h ?_
      intro θ D H W ρ v w ctx hv hw ex ei
      unfold indexArr1
      split
      · rename_i cs
        split
        · rename_i k m
          split
          · rename_i hlt
            have hlt : m < n := by simpa using hlt
            refine does_vl fun u hu' => ?_
            rw [nthF_eq] at hu'
            refine ⟨oks_iff.1 hv.1 u (List.mem_of_getElem? hu'), ?_⟩
            have h1 : (0 : Int) ≤ Int.ofNat m ∧ Int.ofNat m < (n : Int) := ⟨Int.natCast_nonneg m, by simpa using hlt⟩
            have hx : (⟨AV.concs θ cs⟩ : Array Value)[(Int.ofNat m).toNat * 1]? = some (u.conc θ) := by simp [concs_eq, hu']
            simp only [execOp, ho, ex, ei, AV.conc, Instr.index, asIntOf, Sem.run_bind, run_underlying hu, Result.andThen_ok, Sem.run_pure]
            rw [if_pos h1]
            simp only [Sem.run_bind, hsz, Result.andThen_ok, part, aggT_spec ha, Bool.false_eq_true, if_false, hx, Sem.run_pure]
          · exact does_fail
        · exact does_fail
      · exact does_fail
    · cases h
  · rename_i hu
    refine LS_bi h ?_
    intro θ D H W ρ v w ctx hv hw ex ei
    unfold indexStr
    split
    · rename_i s
      split
      · rename_i k m
        split
        · rename_i b hb
          refine does_val trivial ?_
          have h1 : (0 : Int) ≤ Int.ofNat m := Int.natCast_nonneg m
          have hb' : s[m]? = some b := by
            rw [← hb]; rfl
          simp only [execOp, ho, ex, ei, AV.conc, Instr.index, asIntOf, Sem.run_bind, run_underlying hu, Result.andThen_ok, Sem.run_pure]
          rw [if_pos h1]
          simp only [Int.ofNat_eq_natCast, Int.toNat_natCast, hb', Sem.run_pure, Result.andThen_ok]
        · exact does_fail
      · exact does_fail
    · exact does_fail
  · cases h
end Go.Eng
namespace Go.Eng
variable {P : Program}

/-! ### Keys -/
def findIx (kk : KeyK) (k : AV) : List (AV × AV) → Option (Option Nat)
  | [] => some none
  | (j, _) :: es => match eqKey kk k j with
    | some true => some (some 0)
    | some false => (match findIx kk k es with
      | some (some i) => some (some (i + 1))
      | some none => some none
      | none => none)
    | none => none
theorem findA_ix {kk : KeyK} {k : AV} : ∀ {es : List (AV × AV)} {r : Option AV}, findA kk k es = some r → ∃ q, findIx kk k es = some q ∧ r = q.bind fun i => (es[i]?).map (·.2)
  | [], r, h => by simp only [findA, Option.some.injEq] at h; subst h; exact ⟨none, rfl, rfl⟩
  | (j, v) :: es, r, h => by
    simp only [findA] at h
    split at h
    · rename_i he
      injection h with h; subst h
      exact ⟨some 0, by simp [findIx, he], by simp⟩
    · rename_i he
      obtain ⟨q, h1, h2⟩ := findA_ix h
      refine ⟨q.map (· + 1), ?_, ?_⟩
      · cases q <;> simp [findIx, he, h1]
      · subst h2; cases q <;> simp
    · cases h
theorem updA_ix {kk : KeyK} {k w : AV} : ∀ {es es2 : List (AV × AV)}, updA kk k w es = some es2 → ∃ q, findIx kk k es = some q ∧ es2 = match q with | some i => es.set i (k, w) | none => es ++ [(k, w)]
  | [], es2, h => by simp only [updA, Option.some.injEq] at h; subst h; exact ⟨none, rfl, rfl⟩
  | (j, v) :: es, es2, h => by
    simp only [updA] at h
    split at h
    · rename_i he
      injection h with h; subst h
      exact ⟨some 0, by simp [findIx, he], by simp⟩
    · rename_i he
      split at h
      · rename_i r hr
        injection h with h; subst h
        obtain ⟨q, h1, h2⟩ := updA_ix hr
        refine ⟨q.map (· + 1), ?_, ?_⟩
        · cases q <;> simp [findIx, he, h1]
        · subst h2; cases q <;> simp
      · cases h
    · cases h
theorem delA_ix {kk : KeyK} {k : AV} : ∀ {es es2 : List (AV × AV)}, delA kk k es = some es2 → ∃ q, findIx kk k es = some q ∧ es2 = match q with | some i => es.eraseIdx i | none => es
  | [], es2, h => by simp only [delA, Option.some.injEq] at h; subst h; exact ⟨none, rfl, rfl⟩
  | (j, v) :: es, es2, h => by
    simp only [delA] at h
    split at h
    · rename_i he
      injection h with h; subst h
      exact ⟨some 0, by simp [findIx, he], by simp⟩
    · rename_i he
      split at h
      · rename_i r hr
        injection h with h; subst h
        obtain ⟨q, h1, h2⟩ := delA_ix hr
        refine ⟨q.map (· + 1), ?_, ?_⟩
        · cases q <;> simp [findIx, he, h1]
        · subst h2; cases q <;> simp
      · cases h
    · cases h
theorem findIx_lt {kk : KeyK} {k : AV} : ∀ {es : List (AV × AV)} {i : Nat}, findIx kk k es = some (some i) → i < es.length ∧ ∃ e, es[i]? = some e ∧ eqKey kk k e.1 = some true
  | [], i, h => by simp [findIx] at h
  | (j, v) :: es, i, h => by
    simp only [findIx] at h
    split at h
    · rename_i he
      simp only [Option.some.injEq] at h
      subst h
      exact ⟨by simp, (j, v), by simp, he⟩
    · split at h
      · rename_i i' hi
        simp only [Option.some.injEq] at h
        subst h
        obtain ⟨h1, e, h2, h3⟩ := findIx_lt hi
        exact ⟨by simp; omega, e, by simpa using h2, h3⟩
      · simp at h
      · cases h
    · cases h

theorem keyT_spec {t : TypeId} {kk : KeyK} (h : keyT P t = some kk) : (kk = .int ∧ ∃ k, P.underlying t = some (.int k)) ∨ ∃ n, kk = .flat n ∧ flatT P t = some n := by
  unfold keyT at h
  split at h
  · rename_i k hu
    injection h with h
    exact .inl ⟨h.symm, k, hu⟩
  · split at h
    · rename_i n hn
      injection h with h
      exact .inr ⟨n, h.symm, hn⟩
    · cases h
theorem eqKey_run {θ : Env} {t : TypeId} {kk : KeyK} {a b : AV} {r : Bool} (ht : keyT P t = some kk) (h : eqKey kk a b = some r) (w : World) : (Op.equal t (a.conc θ) (b.conc θ)).run P w = .ok r w := by
  rcases keyT_spec ht with ⟨rfl, k, hu⟩ | ⟨n, rfl, hf⟩
  · simp only [eqKey] at h
    split at h
    · split at h
      · rename_i hk
        have := sameK_spec hk; subst this
        injection h with h; subst h
        rw [eqI_eq]
        exact run_equalIn_int w 9999 t _ _ _ _ hu
      · cases h
    · cases h
  · simp only [eqKey, eqFlat] at h
    split at h
    · exact eqFlat_run (d := 9998) hf h w
    · cases h

theorem findAsking_run {θ : Env} {t : TypeId} {kk : KeyK} {k : AV} (ht : keyT P t = some kk) (w : World) : ∀ (es : List (AV × AV)) (es' : List MapEntry) (q : Option Nat) (i0 : Nat),
    findIx kk k es = some q → es'.map (fun x => (x.key, x.val)) = es.map (fun x => (x.1.conc θ, x.2.conc θ)) →
    (Instr.findAsking t (k.conc θ) es' i0).run P w = .ok (q.bind fun i => (es'[i]?).map fun e => (i0 + i, e.val)) w
  | [], es', q, i0, h, he => by
    have : es' = [] := by cases es' <;> simp_all
    subst this
    simp only [findIx, Option.some.injEq] at h
    subst h
    simp [Instr.findAsking]
  | (j, v) :: es, es', q, i0, h, he => by
    cases es' with
    | nil => simp at he
    | cons e es' =>
      simp only [List.map_cons, List.cons.injEq, Prod.mk.injEq] at he
      obtain ⟨⟨he1, he2⟩, he3⟩ := he
      simp only [findIx] at h
      simp only [Instr.findAsking, Sem.run_bind, he1]
      split at h
      · rename_i hk
        simp only [Option.some.injEq] at h
        subst h
        simp [eqKey_run ht hk w]
      · rename_i hk
        simp only [eqKey_run ht hk w, Result.andThen_ok, Bool.false_eq_true, if_false]
        split at h
        · rename_i i hi
          simp only [Option.some.injEq] at h
          subst h
          rw [findAsking_run ht w es es' (some i) (i0 + 1) hi he3]
          simp [Nat.add_assoc, Nat.add_comm 1 i]
        · rename_i hi
          simp only [Option.some.injEq] at h
          subst h
          rw [findAsking_run ht w es es' none (i0 + 1) hi he3]
          simp
        · cases h
      · cases h
theorem findNow_int {θ : Env} {k : IntKind} {a : AV} : ∀ (es : List (AV × AV)) (es' : List MapEntry) (q : Option Nat) (i0 : Nat),
    findIx .int a es = some q → es'.map (fun x => (x.key, x.val)) = es.map (fun x => (x.1.conc θ, x.2.conc θ)) →
    Instr.findNow (.int k) (a.conc θ) es' i0 = some (q.bind fun i => (es'[i]?).map fun e => (i0 + i, e.val))
  | [], es', q, i0, h, he => by
    have : es' = [] := by cases es' <;> simp_all
    subst this
    simp only [findIx, Option.some.injEq] at h
    subst h
    simp [Instr.findNow]
  | (j, v) :: es, es', q, i0, h, he => by
    cases es' with
    | nil => simp at he
    | cons e es' =>
      simp only [List.map_cons, List.cons.injEq, Prod.mk.injEq] at he
      obtain ⟨⟨he1, he2⟩, he3⟩ := he
      have hsame : ∀ r, eqKey .int a j = some r → Instr.sameNow (.int k) (a.conc θ) e.key = some r := by
        intro r hr
        simp only [eqKey] at hr
        split at hr
        · split at hr
          · rename_i hk
            have := sameK_spec hk; subst this
            injection hr with hr; subst hr
            rw [he1]
            simp [AV.conc, Instr.sameNow, eqI_eq]
          · cases hr
        · cases hr
      simp only [findIx] at h
      simp only [Instr.findNow]
      split at h
      · rename_i hk
        simp only [Option.some.injEq] at h
        subst h
        simp [hsame _ hk]
      · rename_i hk
        simp only [hsame _ hk]
        split at h
        · rename_i i hi
          simp only [Option.some.injEq] at h
          subst h
          rw [findNow_int es es' (some i) (i0 + 1) hi he3]
          simp [Nat.add_assoc, Nat.add_comm 1 i]
        · rename_i hi
          simp only [Option.some.injEq] at h
          subst h
          rw [findNow_int es es' none (i0 + 1) hi he3]
          simp
        · cases h
      · cases h
theorem findKey_run {θ : Env} {t : TypeId} {kk : KeyK} {k : AV} (ht : keyT P t = some kk) (w : World) (es : List (AV × AV)) (es' : List MapEntry) (q : Option Nat)
    (h : findIx kk k es = some q) (he : es'.map (fun x => (x.key, x.val)) = es.map (fun x => (x.1.conc θ, x.2.conc θ))) :
    (Instr.findKey t (k.conc θ) es').run P w = .ok (q.bind fun i => (es'[i]?).map fun e => (i, e.val)) w := by
  have hask := findAsking_run ht w es es' q 0 h he
  simp only [Nat.zero_add] at hask
  rcases keyT_spec ht with ⟨rfl, k', hu⟩ | ⟨n, rfl, hf⟩
  · have hnow := findNow_int (k := k') es es' q 0 h he
    simp only [Nat.zero_add] at hnow
    simp only [Instr.findKey, Sem.run_bind, run_underlying hu, Result.andThen_ok, hnow, Sem.run_pure]
  · obtain ⟨fs, hu, _⟩ := flatT_spec hf
    simp only [Instr.findKey, Sem.run_bind, run_underlying hu, Result.andThen_ok]
    split
    · rename_i r hr
      cases es' with
      | nil =>
        simp only [Instr.findNow, Option.some.injEq] at hr
        subst hr
        have : es = [] := by cases es <;> simp_all
        subst this
        simp only [findIx, Option.some.injEq] at h
        subst h
        simp
      | cons e es' => simp [Instr.findNow, Instr.sameNow] at hr
    · exact hask
theorem checkKey_int {t : TypeId} {k k' : IntKind} {n : Int} (hu : P.underlying t = some (.int k')) (e : Bool) (d : Nat) (w : World) : (Instr.checkKey e (d + 1) t (.int k n)).run P w = .ok () w := by
  rw [Instr.checkKey]
  simp only [Sem.run_bind, run_underlying hu, Result.andThen_ok]
  rfl
theorem checkKey_run {θ : Env} {t : TypeId} {kk : KeyK} {k : AV} (ht : keyT P t = some kk) (hk : isKey kk k = true) (e : Bool) (w : World) : (Instr.checkKey e 10000 t (k.conc θ)).run P w = .ok () w := by
  have hk' : ∃ r, eqKey kk k k = some r := by
    unfold isKey at hk
    split at hk
    · rename_i r hr; exact ⟨r, hr⟩
    · cases hk
  obtain ⟨r, hr⟩ := hk'
  rcases keyT_spec ht with ⟨rfl, k', hu⟩ | ⟨n, rfl, hf⟩
  · simp only [eqKey] at hr
    split at hr
    · exact checkKey_int hu e 9999 w
    · cases hr
  · obtain ⟨fs, hu, hfl, _, _, hn⟩ := flatT_spec hf
    cases k <;> simp only [eqKey, eqFlat, reduceCtorEq] at hr
    · rename_i m
      show (Instr.checkKey e (9998 + 1 + 1) t _).run P w = _
      rw [Instr.checkKey]
      simp only [AV.conc, Sem.run_bind, run_underlying hu, Result.andThen_ok]
      rw [← Array.forIn_toList]
      have key : ∀ (fl : List Field) (i : Nat) (as : List AV) (r : Bool), eqIs fl.length as as = some r → flatFields P fl i = true → (∀ j, (⟨AV.concs θ m⟩ : Array Value)[i + j]? = (AV.concs θ as)[j]?) →
          (forIn fl () (fun f (_ : Unit) => (do
            if f.name ≠ "_" then Instr.checkKey e (9998 + 1) f.type (← part f.type ⟨AV.concs θ m⟩ f.offset)
            pure (ForInStep.yield ()) : Sem (ForInStep Unit)))).run P w = .ok () w := by
        intro fl
        induction fl with
        | nil => intros; simp
        | cons f fl ih =>
          intro i as r hr hfl hx
          obtain ⟨h1, h2, ⟨k', h3⟩, h4⟩ := flatFields_cons hfl
          cases as with
          | nil => simp [eqIs] at hr
          | cons a as =>
            cases a <;> simp only [List.length_cons, eqIs, reduceCtorEq] at hr
            rename_i j n'
            split at hr
            · split at hr
              · rename_i r' hr'
                have hx0 := hx 0
                simp only [Nat.add_zero, AV.concs, AV.conc, List.getElem?_cons_zero] at hx0
                have := ih (i + 1) as r' hr' h4 (fun j => by have := hx (j + 1); simpa [Nat.add_assoc, Nat.add_comm 1 j, AV.concs] using this)
                simp only [List.forIn_cons, Sem.run_bind, Sem.run_ite]
                rw [if_pos h2]
                simp only [h1, run_part_int h3 _ i _ hx0, Result.andThen_ok, checkKey_int h3 e 9998 w, Sem.run_pure]
                exact this
              · cases hr
            · cases hr
      have := key fs.toList 0 m r (hn ▸ hr) hfl (fun j => by simp)
      simp at this ⊢
      rw [this]
      rfl
end Go.Eng
namespace Go.Eng
variable {P : Program}

theorem get_map {θ : Env} {h : AHeap} {W : World} (hr : HR θ h W) {b : Pt} {es : List (AV × AV)} (hb : h.get b = some (.map es)) :
    ∃ es' k, W.heap[θ.blk b]? = some (.map es' k) ∧ (∀ x ∈ es, x.1.ok θ h.D ∧ x.2.ok θ h.D) ∧ es'.toList.map (fun x => (x.key, x.val)) = es.map (fun x => (x.1.conc θ, x.2.conc θ)) ∧
      (∀ P : Program, (getObj (θ.blk b)).run P W = .ok (.map es' k) W) := by
  obtain ⟨es', k, h1, h2, h3, _⟩ := hr.obj b _ hb
  exact ⟨es', k, h1, h2, h3, fun P => by simp [getObj, Sem.run, h1]⟩
theorem get_map_st {θ : Env} {h : AHeap} {W : World} (hr : HR θ h W) {b : Pt} {es : List (AV × AV)} (hb : h.get b = some (.map es)) {es' : Array MapEntry} {k : Nat} (he : W.heap[θ.blk b]? = some (.map es' k)) : Go.MapKept.Stamped es' k := by
  obtain ⟨es'', k', h1, _, _, h4⟩ := hr.obj b _ hb
  rw [he] at h1
  injection h1 with h1; injection h1 with h1 h2; subst h1 h2
  exact h4

theorem S_lookup {o : Oper} {t : TypeId} {m k : Operand} {ok : Bool} {g : OpF} (ho : o.op = .lookup t m k ok) (h : lookupP P t m k ok = .mk g) : LS P o g := by
  unfold lookupP at h
  split at h
  · rename_i kt e hu
    split at h
    · rename_i kk z hkt hz
      obtain ⟨zv, hz1, hz2, _⟩ := zeroT_spec hz
      refine LS_bi h ?_
      intro θ D H W ρ v w ctx hv hw ex ey
      obtain ⟨hz3, hz4⟩ := ofV_conc θ D zv z hz2
      unfold lookupD
      split
      · exact does_fail
      · rename_i hkey
        split
        · -- nil
          simp only [lookRes]
          refine does_val (by cases ok; exact hz4; exact ⟨hz4, trivial, trivial⟩) ?_
          have hf := findKey_run (θ := θ) hkt W [] [] none rfl rfl (k := w)
          simp only [execOp, ho, ex, ey, AV.conc, Instr.lookup, Sem.run_bind, run_underlying hu, Result.andThen_ok, Sem.run_pure, checkKey_run hkt hkey]
          simp only [hf, Result.andThen_ok, Option.bind_none, Sem.run_bind, hz1, Sem.run_pure]
          cases ok <;> simp [AV.conc, AV.concs, hz3]
        · rename_i b
          split
          · rename_i es hb
            obtain ⟨es', clk, h1, h2, h3, h4⟩ := get_map ctx.hr hb
            cases hfa : findA kk w es with
            | none => exact does_fail
            | some r =>
              obtain ⟨q, hq, hr⟩ := findA_ix hfa
              have hf := findKey_run (θ := θ) hkt W es es'.toList q hq h3
              cases q with
              | none =>
                simp only [Option.bind_none] at hr hf
                subst hr
                simp only [lookRes]
                refine does_val (by cases ok; exact hz4; exact ⟨hz4, trivial, trivial⟩) ?_
                simp only [execOp, ho, ex, ey, AV.conc, Instr.lookup, Sem.run_bind, run_underlying hu, Result.andThen_ok, Sem.run_pure, h4, checkKey_run hkt hkey, hf, hz1]
                cases ok <;> simp [AV.conc, AV.concs, hz3]
              | some i =>
                obtain ⟨hlt, en, hen, _⟩ := findIx_lt hq
                simp only [Option.bind_some, hen, Option.map_some] at hr
                subst hr
                have hmem := h2 en (List.mem_of_getElem? hen)
                have hi : ∃ me, es'.toList[i]? = some me ∧ me.val = en.2.conc θ := by
                  have := congrArg (·[i]?) h3
                  simp only [List.getElem?_map, hen, Option.map_some, Option.map_eq_some_iff] at this
                  obtain ⟨me, hm1, hm2⟩ := this
                  exact ⟨me, hm1, (Prod.mk.inj hm2).2⟩
                obtain ⟨me, hm1, hm2⟩ := hi
                simp only [Option.bind_some, hm1, Option.map_some] at hf
                simp only [lookRes]
                refine does_val (by cases ok; exact ok_mono ctx.sub hmem.2; exact ⟨ok_mono ctx.sub hmem.2, trivial, trivial⟩) ?_
                simp only [execOp, ho, ex, ey, AV.conc, Instr.lookup, Sem.run_bind, run_underlying hu, Result.andThen_ok, Sem.run_pure, h4, checkKey_run hkt hkey, hf]
                cases ok <;> simp [AV.conc, AV.concs, hm2]
          · exact does_fail
        · exact does_fail
    · cases h
  · cases h

theorem map_args {ρ : Operand → Value} {xs : Array Operand} {θ : Env} {l : List AV} (h : xs.toList.map ρ = AV.concs θ l) : xs.map ρ = ⟨AV.concs θ l⟩ := by
  rw [← h]; apply Array.ext'; simp

/-- a builtin's run -/
theorem run_builtin {o : Oper} {c : Call} {b : Builtin} {ρ : Operand → Value} {W : World} {args : Array Value} {r : Value} (ho : o.op = .call c) (hc : c.callee = .builtin b)
    (ha : c.args.map ρ = args) {s : Sem Value} (hs : ∀ consts, builtin b c.argTypes o.type consts args = (do pure (.value (← s)))) (hr : s.run P W = .ok r W) :
    (execOp ρ o).run P W = .ok (.value r) W := by
  simp only [execOp, ho, resolve, hc, ha, Sem.run_bind, Sem.run_pure, Result.andThen_ok, invoke, hs, hr]

theorem S_len {o : Oper} {c : Call} {t : TypeId} {ts : List TypeId} {x : Operand} {g : OpF} (ho : o.op = .call c) (hc : c.callee = .builtin .len)
    (ht : c.argTypes.toList = t :: ts) (ha : c.args.toList = [x]) (h : lenP P t x = .mk g) : LS P o g := by
  have ht0 : c.argTypes[0]? = some t := by rw [← Array.getElem?_toList, ht]; rfl
  have ha' : ∀ (ρ : Operand → Value) v, ρ x = v → c.args.map ρ = #[v] := fun ρ v hv => by
    apply Array.ext'; simp [ha, hv]
  have fin : ∀ {θ : Env} {D : Pt → Prop} {H : AHeap} {W : World} {ρ : Operand → Value} {v : AV} {n : Int}, ρ x = v.conc θ → (Builtin.len_ c.argTypes o.type #[v.conc θ]).run P W = .ok (.int .i64 n) W →
      Does P o θ D H W ρ (.val (.int .i64 n) H) := by
    intro θ D H W ρ v n ex hrun
    exact does_val trivial (run_builtin ho hc (ha' ρ _ ex) (fun _ => rfl) hrun)
  unfold lenP at h
  split at h
  · rename_i hu
    refine LS_un h ?_
    intro θ D H W ρ v ctx hv ex
    unfold lenStr
    split
    · exact fin ex (by simp [Builtin.len_, ht0, run_underlying hu, AV.conc, goInt])
    · exact does_fail
  · rename_i n e hu
    refine LS_un h ?_
    intro θ D H W ρ v ctx hv ex
    exact fin ex (by simp [Builtin.len_, ht0, run_underlying hu, goInt])
  · rename_i e hu
    refine LS_un h ?_
    intro θ D H W ρ v ctx hv ex
    unfold lenSl
    split
    · exact fin ex (by simp [Builtin.len_, ht0, run_underlying hu, AV.conc, goInt])
    · exact fin ex (by simp [Builtin.len_, ht0, run_underlying hu, AV.conc, goInt])
    · exact does_fail
  · rename_i kt e hu
    refine LS_un h ?_
    intro θ D H W ρ v ctx hv ex
    unfold lenMap
    split
    · exact fin ex (by simp [Builtin.len_, ht0, run_underlying hu, AV.conc, goInt])
    · rename_i b
      split
      · rename_i es hb
        obtain ⟨es', clk, h1, h2, h3, h4⟩ := get_map ctx.hr hb
        have hl : es'.size = lenF es := by
          have := congrArg List.length h3
          simpa [lenF_eq] using this
        refine fin ex ?_
        simp [Builtin.len_, ht0, run_underlying hu, AV.conc, goInt, h4, hl]
      · exact does_fail
    · exact does_fail
  · cases h
theorem S_cap {o : Oper} {c : Call} {t : TypeId} {ts : List TypeId} {x : Operand} {g : OpF} (ho : o.op = .call c) (hc : c.callee = .builtin .cap)
    (ht : c.argTypes.toList = t :: ts) (ha : c.args.toList = [x]) (h : capP P t x = .mk g) : LS P o g := by
  have ht0 : c.argTypes[0]? = some t := by rw [← Array.getElem?_toList, ht]; rfl
  have ha' : ∀ (ρ : Operand → Value) v, ρ x = v → c.args.map ρ = #[v] := fun ρ v hv => by
    apply Array.ext'; simp [ha, hv]
  unfold capP at h
  split at h
  · rename_i e hu
    refine LS_un h ?_
    intro θ D H W ρ v ctx hv ex
    unfold capSl
    split
    · exact does_val trivial (run_builtin ho hc (ha' ρ _ ex) (fun _ => rfl) (by simp [Builtin.cap_, ht0, run_underlying hu, AV.conc, goInt]))
    · exact does_val trivial (run_builtin ho hc (ha' ρ _ ex) (fun _ => rfl) (by simp [Builtin.cap_, ht0, run_underlying hu, AV.conc, goInt, ACap.conc]))
    · exact does_fail
  · cases h

theorem minFrom_run (θ : Env) (k : IntKind) (h : AHeap) (W : World) : ∀ (l : List AV) (a : Int), minFrom k a l h = .fail ∨
    ∃ n, minFrom k a l h = .val (.int k n) h ∧ ((AV.concs θ l).foldlM Builtin.min2 (.int k a)).run P W = .ok (.int k n) W
  | [], a => .inr ⟨a, rfl, by simp [AV.concs]⟩
  | v :: l, a => by
    cases v <;> try exact .inl rfl
    rename_i j b
    rcases minFrom_run θ k h W l (bif ltI b a then b else a) with h1 | ⟨n, h1, h2⟩
    · exact .inl h1
    · refine .inr ⟨n, h1, ?_⟩
      simp only [AV.concs, AV.conc, List.foldlM_cons, Builtin.min2, Sem.run_bind, Sem.run_pure, Result.andThen_ok]
      rw [← h2]
      congr 4
      rw [ltI_eq]
      by_cases e : b < a <;> simp [e]
theorem maxFrom_run (θ : Env) (k : IntKind) (h : AHeap) (W : World) : ∀ (l : List AV) (a : Int), maxFrom k a l h = .fail ∨
    ∃ n, maxFrom k a l h = .val (.int k n) h ∧ ((AV.concs θ l).foldlM Builtin.max2 (.int k a)).run P W = .ok (.int k n) W
  | [], a => .inr ⟨a, rfl, by simp [AV.concs]⟩
  | v :: l, a => by
    cases v <;> try exact .inl rfl
    rename_i j b
    rcases maxFrom_run θ k h W l (bif ltI a b then b else a) with h1 | ⟨n, h1, h2⟩
    · exact .inl h1
    · refine .inr ⟨n, h1, ?_⟩
      simp only [AV.concs, AV.conc, List.foldlM_cons, Builtin.max2, Sem.run_bind, Sem.run_pure, Result.andThen_ok]
      rw [← h2]
      congr 4
      rw [ltI_eq]
      by_cases e : a < b <;> simp [e]
theorem S_min {o : Oper} {c : Call} {g : OpF} (ho : o.op = .call c) (hc : c.callee = .builtin .min) (h : many (rvs c.args.toList) minD = .mk g) : LS P o g := by
  refine LS_many h ?_
  intro θ D H W ρ l ctx hl el
  unfold minD
  split
  · rename_i k a r
    rcases minFrom_run (P := P) θ k H W r a with h1 | ⟨n, h1, h2⟩
    · exact .inl h1
    · rw [h1]
      exact does_val trivial (run_builtin ho hc (map_args el) (fun _ => rfl) (by simpa [Builtin.min_, AV.concs, AV.conc] using h2))
  · exact does_fail
theorem S_max {o : Oper} {c : Call} {g : OpF} (ho : o.op = .call c) (hc : c.callee = .builtin .max) (h : many (rvs c.args.toList) maxD = .mk g) : LS P o g := by
  refine LS_many h ?_
  intro θ D H W ρ l ctx hl el
  unfold maxD
  split
  · rename_i k a r
    rcases maxFrom_run (P := P) θ k H W r a with h1 | ⟨n, h1, h2⟩
    · exact .inl h1
    · rw [h1]
      exact does_val trivial (run_builtin ho hc (map_args el) (fun _ => rfl) (by simpa [Builtin.max_, AV.concs, AV.conc] using h2))
  · exact does_fail

theorem S_assert {o : Oper} {x : Operand} {s d : TypeId} {ok : Bool} {g : OpF} (ho : o.op = .typeAssert x s d ok) (h : assertP P x d ok = .mk g) : LS P o g := by
  unfold assertP at h
  split at h
  · cases h
  · rename_i dd hnot hu
    refine LS_un h ?_
    intro θ D H W ρ v ctx hv ex
    have hz : ∀ z, zeroT P d = some z → z.ok θ D ∧ ∃ zv, (zeroValue d).run P W = .ok zv W ∧ z.conc θ = zv := fun z hz => by
      obtain ⟨zv, h1, h2, _⟩ := zeroT_spec hz
      obtain ⟨h3, h4⟩ := ofV_conc θ D zv z h2
      exact ⟨h4, zv, h1 W, h3⟩
    unfold assertD
    split
    · rename_i t u
      split
      · rename_i ht
        have ht : t = d := Nat.eq_of_beq_eq_true ht
        refine does_val (by cases ok; exact hv; exact ⟨hv, trivial, trivial⟩) ?_
        simp only [execOp, ho, ex, AV.conc, Instr.typeAssert, Sem.run_bind, run_underlying hu, Result.andThen_ok]
        cases dd <;> first | exact absurd rfl (hnot _) | (simp [ht]; cases ok <;> simp [AV.conc, AV.concs])
      · rename_i ht
        have ht : t ≠ d := fun e => by subst e; simp at ht
        split
        · rename_i z hz'
          obtain ⟨h1, zv, h2, h3⟩ := hz _ hz'
          refine does_val ⟨h1, trivial, trivial⟩ ?_
          simp only [execOp, ho, ex, AV.conc, Instr.typeAssert, Sem.run_bind, run_underlying hu, Result.andThen_ok]
          cases dd <;> first | exact absurd rfl (hnot _) | (simp [ht, h2, AV.concs, AV.conc, h3])
        · exact does_fail
    · split
      · rename_i z hz'
        obtain ⟨h1, zv, h2, h3⟩ := hz _ hz'
        refine does_val ⟨h1, trivial, trivial⟩ ?_
        simp only [execOp, ho, ex, AV.conc, Instr.typeAssert, Sem.run_bind, run_underlying hu, Result.andThen_ok]
        cases dd <;> first | exact absurd rfl (hnot _) | (simp [h2, AV.concs, AV.conc, h3])
      · exact does_fail
    · exact does_fail
  · cases h
end Go.Eng
namespace Go.Eng
variable {P : Program}

/-! ### Composites -/
theorem splice_spec : ∀ (off : Nat) (l z r : List AV), spliceF off l z = some r → off + l.length ≤ z.length → r = z.take off ++ l ++ z.drop (off + l.length)
  | off, [], z, r, h, _ => by simp only [spliceF, Option.some.injEq] at h; subst h; simp
  | 0, v :: vs, [], r, h, _ => by simp [spliceF] at h
  | 0, v :: vs, y :: z, r, h, hl => by
    simp only [spliceF] at h
    split at h
    · rename_i r' hr
      injection h with h; subst h
      have := splice_spec 0 vs z r' hr (by simp at hl ⊢; omega)
      simp at this
      simp [this]
    · cases h
  | n + 1, v :: vs, [], r, h, _ => by simp [spliceF] at h
  | n + 1, v :: vs, y :: z, r, h, hl => by
    simp only [spliceF] at h
    split at h
    · rename_i r' hr
      injection h with h; subst h
      have := splice_spec n (v :: vs) z r' hr (by simp at hl ⊢; omega)
      rw [this]
      simp [Nat.add_right_comm n 1]
    · cases h
theorem foldl_set (off : Nat) : ∀ (l : List Value) (k : Nat) (arr : Array Value), off + k + l.length ≤ arr.size →
    ((l.zipIdx k).foldl (fun cs (x : Value × Nat) => cs.setIfInBounds (off + x.2) x.1) arr).toList = arr.toList.take (off + k) ++ l ++ arr.toList.drop (off + k + l.length)
  | [], k, arr, _ => by simp
  | v :: l, k, arr, h => by
    simp only [List.zipIdx_cons, List.foldl_cons]
    rw [foldl_set off l (k + 1) _ (by simp at h ⊢; omega)]
    simp only [List.length_cons] at h
    have hk : off + k < arr.toList.length := by simp; omega
    simp only [Array.toList_setIfInBounds, List.length_cons]
    have e1 : (arr.toList.set (off + k) v).take (off + (k + 1)) = arr.toList.take (off + k) ++ [v] := by
      rw [show off + (k + 1) = (off + k) + 1 by omega, List.take_succ_eq_append_getElem (by simpa using hk)]
      simp [List.take_set_of_le]
    have e2 : (arr.toList.set (off + k) v).drop (off + (k + 1) + l.length) = arr.toList.drop (off + k + (l.length + 1)) := by
      rw [List.drop_set_of_lt (by omega), show off + (k + 1) + l.length = off + k + (l.length + 1) by omega]
    rw [e1, e2]
    simp

def PlaceOK (place : Nat → Option (Nat × Nat)) : List Nat → List (Nat × Nat) → Prop
  | [], [] => True
  | i :: is, p :: pl => place i = some p ∧ PlaceOK place is pl
  | _, _ => False
theorem fill_run (θ : Env) (D : Pt → Prop) (place : Nat → Option (Nat × Nat)) : ∀ (is : List Nat) (pl : List (Nat × Nat)) (l z out : List AV), PlaceOK place is pl → fillA pl l z = some out →
    AV.oks θ D l → AV.oks θ D z → allSc z = true →
    Instr.fill place ⟨AV.concs θ z⟩ (is.zip (AV.concs θ l)) = some ⟨AV.concs θ out⟩ ∧ out.length = z.length ∧ AV.oks θ D out ∧ allSc out = true
  | [], [], l, z, out, _, h, _, hz, hs => by
    cases l with
    | nil => simp only [fillA, Option.some.injEq] at h; subst h; exact ⟨by simp [Instr.fill], rfl, hz, hs⟩
    | cons v vs => simp [fillA] at h
  | [], _ :: _, _, _, _, h, _, _, _, _ => h.elim
  | _ :: _, [], _, _, _, h, _, _, _, _ => h.elim
  | i :: is, (off, s) :: pl, l, z, out, hp, h, hl, hz, hs => by
    cases l with
    | nil => simp [fillA] at h
    | cons v vs =>
      obtain ⟨hp1, hp2⟩ := hp
      simp only [fillA] at h
      split at h
      · rename_i f hf
        obtain ⟨f1, f2, f3⟩ := flat_spec (θ := θ) (n := D) hf hl.1
        split at h
        · rename_i hc
          simp only [Bool.and_eq_true, lenF_eq] at hc
          have hc1 : f.length = s := Nat.eq_of_beq_eq_true hc.1
          have hc2 : off + s ≤ z.length := Nat.le_of_ble_eq_true hc.2
          split at h
          · rename_i z' hz'
            have hsp := splice_spec off f z z' hz' (by omega)
            have hz1 : z'.length = z.length := by rw [hsp]; simp; omega
            have hmem : ∀ a ∈ z', a ∈ z ∨ a ∈ f := fun a ha => by
              rw [hsp] at ha
              simp only [List.append_assoc, List.mem_append] at ha
              rcases ha with ha | ha | ha
              · exact .inl (List.mem_of_mem_take ha)
              · exact .inr ha
              · exact .inl (List.mem_of_mem_drop ha)
            have hz2 : AV.oks θ D z' := oks_iff.2 fun a ha => (hmem a ha).elim (oks_iff.1 hz a) (oks_iff.1 f2 a)
            have hz3 : allSc z' = true := allSc_iff.2 fun a ha => (hmem a ha).elim (allSc_iff.1 hs a) (allSc_iff.1 f3 a)
            obtain ⟨g1, g2, g3, g4⟩ := fill_run θ D place is pl vs z' out hp2 h hl.2 hz2 hz3
            refine ⟨?_, g2.trans hz1, g3, g4⟩
            simp only [AV.concs, List.zip_cons_cons, Instr.fill, hp1, f1]
            have hsz : (⟨AV.concs θ f⟩ : Array Value).size = f.length := by simp [concs_eq]
            have hszz : (⟨AV.concs θ z⟩ : Array Value).size = z.length := by simp [concs_eq]
            rw [if_neg (by simp [concs_eq, hc1]; omega)]
            rw [← g1]
            congr 1
            apply Array.ext'
            rw [← Array.foldl_toList]
            simp only [Array.toList_zipIdx]
            have := foldl_set off (AV.concs θ f) 0 ⟨AV.concs θ z⟩ (by simp [concs_eq]; omega)
            simp only [Nat.add_zero, concs_length] at this
            rw [this, hsp]
            simp [concs_eq]
          · cases h
        · cases h
      · cases h

theorem mapM_sizes : ∀ (fs : List Field), sizesOK P fs = true → ∀ w, ∃ l : List (Nat × Nat), (fs.mapM (fun f => (do pure (f.offset, ← sizeOf f.type) : Sem (Nat × Nat)))).run P w = .ok l w ∧
    ∀ (i : Nat) (fd : Field) (n : Nat), fs[i]? = some fd → sizeT P fd.type = some n → l[i]? = some (fd.offset, n)
  | [], _, w => ⟨[], by simp, by simp⟩
  | f :: fs, h, w => by
    simp only [sizesOK, Bool.and_eq_true] at h
    obtain ⟨h1, h2⟩ := h
    cases hs : sizeT P f.type with
    | none => rw [hs] at h1; cases h1
    | some n =>
      obtain ⟨l, hl1, hl2⟩ := mapM_sizes fs h2 w
      refine ⟨(f.offset, n) :: l, ?_, ?_⟩
      · simp only [List.mapM_cons, Sem.run_bind, (sizeT_spec hs).1, Result.andThen_ok, Sem.run_pure, hl1]
      · intro i fd m hi hm
        cases i with
        | zero => simp only [List.getElem?_cons_zero, Option.some.injEq] at hi ⊢; subst hi; rw [hs] at hm; injection hm with hm; rw [hm]
        | succ i => simpa using hl2 i fd m (by simpa using hi) hm
theorem placesS_ok {fs : List Field} {l : List (Nat × Nat)} (hl : ∀ (i : Nat) (fd : Field) (n : Nat), fs[i]? = some fd → sizeT P fd.type = some n → l[i]? = some (fd.offset, n)) :
    ∀ {is : List Nat} {pl : List (Nat × Nat)}, placesS P fs is = some pl → PlaceOK (l[·]?) is pl
  | [], pl, h => by simp only [placesS, Option.some.injEq] at h; subst h; trivial
  | i :: is, pl, h => by
    simp only [placesS] at h
    split at h
    · cases h
    · rename_i fd hf
      rw [nthF_eq] at hf
      split at h
      · cases h
      · rename_i s hs
        split at h
        · cases h
        · rename_i r hr
          injection h with h; subst h
          exact ⟨hl i fd s hf hs, placesS_ok hl hr⟩
theorem placesA_ok (sz : Nat) : ∀ (is : List Nat), PlaceOK (fun i => some (i * sz, sz)) is (placesA sz is)
  | [] => trivial
  | i :: is => ⟨rfl, placesA_ok sz is⟩
theorem parts_eq {ρ : Operand → Value} {ps : Array (Nat × Operand)} {vs : List Value} (h : (ps.toList.map (·.2)).map ρ = vs) :
    (ps.map fun (x : Nat × Operand) => (x.1, ρ x.2)).toList = (ps.toList.map (·.1)).zip vs := by
  subst h
  simp only [Array.toList_map]
  generalize ps.toList = l
  induction l with
  | nil => rfl
  | cons x l ih => simp [ih]

theorem S_build {o : Oper} {t : TypeId} {ps : Array (Nat × Operand)} {g : OpF} (ho : o.op = .build t ps) (h : buildP P t ps.toList = .mk g) : LS P o g := by
  unfold buildP at h
  split at h
  · cases h
  · rename_i z hz
    split at h
    · rename_i fs hu
      split at h
      · rename_i pl hpl hsz
        refine LS_many h ?_
        intro θ D H W ρ l ctx hl el
        obtain ⟨zv, z1, z2, z3, z4⟩ := zeroC_spec hz θ D
        unfold buildD
        split
        · rename_i out hout
          obtain ⟨ll, m1, m2⟩ := mapM_sizes fs.toList hsz W
          obtain ⟨f1, f2, f3, f4⟩ := fill_run θ D (ll[·]?) _ pl l z out (placesS_ok m2 hpl) hout hl z3 z4
          refine does_val ⟨f3, f4⟩ ?_
          have hm : (fs.mapM (fun f => (do pure (f.offset, ← sizeOf f.type) : Sem (Nat × Nat)))).run P W = .ok ll.toArray W := by
            rw [Array.mapM_eq_mapM_toList]
            simp only [Sem.run_map, m1, Result.andThen_ok]
          simp only [execOp, ho, Instr.build, Sem.run_bind, z1, Result.andThen_ok, run_underlying hu, hm, z2, parts_eq el, Sem.run_pure]
          have : (fun (i : Nat) => ll.toArray[i]?) = (fun (i : Nat) => ll[i]?) := by funext i; simp
          rw [this, f1]
          rfl
        · exact does_fail
      · cases h
    · rename_i n e hu
      split at h
      · rename_i sz hs
        refine LS_many h ?_
        intro θ D H W ρ l ctx hl el
        obtain ⟨zv, z1, z2, z3, z4⟩ := zeroC_spec hz θ D
        unfold buildD
        split
        · rename_i out hout
          obtain ⟨f1, f2, f3, f4⟩ := fill_run θ D (fun i => some (i * sz, sz)) _ _ l z out (placesA_ok sz _) hout hl z3 z4
          refine does_val ⟨f3, f4⟩ ?_
          simp only [execOp, ho, Instr.build, Sem.run_bind, z1, Result.andThen_ok, run_underlying hu, (sizeT_spec hs).1, z2, parts_eq el, f1, Sem.run_pure]
          rfl
        · exact does_fail
      · cases h
    · cases h
end Go.Eng
