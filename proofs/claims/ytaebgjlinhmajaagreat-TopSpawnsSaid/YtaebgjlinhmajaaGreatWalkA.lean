/-
  Contracts of small functions of the program, by walks.
-/
import Derived.WalkKit
import Derived.IntWalk
import Derived.Test.YtaebgjlinhmajaaGreatProg
import Derived.RangeFuncBox
import Derived.RangeFuncLeaves
import Derived.Shelf.Abstract
import Derived.OwnWalkIn
import Derived.TacticsInMore
import Derived.LoopNIn
import Derived.LoopIn
import Derived.RangeFuncNested
namespace Go.Proofs
open Go.RowKit
/-- a bool, nothing that lay has turned -/
def BP (b : Bool) (w : World) (e : Ending) (w' : World) : Prop := e = .returned (.bool b) ∧ Below w.heap.size w w'
theorem BP.same {b b' : Bool} {w : World} (h : b = b') : BP b' w (.returned (.bool b)) w := ⟨by rw [h], Below.refl _ _⟩
theorem BP.box {b b' : Bool} {w : World} {o : Obj} (h : b = b') : BP b' w (.returned (.bool b)) (w.alloc o) := ⟨by rw [h], (Below.refl _ _).alloc (Nat.le_refl _) _⟩
def fitsB (t l : Int) : Bool :=
  if t = 0 then decide (-1152921504606846976 ≤ l ∧ l ≤ 1152921504606846975) else
  if t = 1 then decide (0 ≤ l ∧ l ≤ 255) else if t = 2 then decide (0 ≤ l ∧ l ≤ 63) else if t = 3 then decide (0 ≤ l ∧ l ≤ 0) else
  if t = 4 ∨ t = 5 ∨ t = 6 ∨ t = 7 then decide (0 ≤ l ∧ l ≤ 1152921504606846975) else false
set_option maxHeartbeats 1000000 in
theorem Tryz.fits_any (t l : Int) (w : World) : Calls Tryz.prog 327 #[.int .i64 t, .int .i64 l] w (BP (fitsB t l) w) := by
  go_enter Tryz.func327, Tryz.ntmps327
  go_wp2
  all_goals go_ret
  all_goals refine BP.same ?_
  all_goals simp only [beq_iff_eq, beq_eq_false_iff_ne, ne_eq] at *
  all_goals unfold fitsB
  all_goals simp [*]
  all_goals omega
def thereB (o c form n : Int) : Bool :=
  if form = 7 then decide (1 ≤ n ∧ n ≤ 9 ∧ n ≠ 2) else
  decide (0 ≤ n ∧ n ≤ (if form = 1 then 7 else if form = 2 then 6 else if form = 3 then c - 1 else if form = 4 then o - 1 else if form = 5 then 8 else if form = 6 then 7 else if form = 8 then 8 else 0))
set_option maxHeartbeats 2000000 in
theorem Tryz.there_any (a1 a2 : Option Addr) (o c d1 d2 : Nat) (form n : Int) (ho : o ≤ 1000000) (hc : c ≤ 1000000) (w : World) :
    Calls Tryz.prog 149 #[.agg #[.slice a1 o d1, .slice a2 c d2], .int .i64 form, .int .i64 n] w (BP (thereB o c form n) w) := by
  go_enter Tryz.func149, Tryz.ntmps149
  go_wp2
  all_goals go_ret
  all_goals refine BP.box ?_
  all_goals simp only [beq_iff_eq, beq_eq_false_iff_ne, ne_eq] at *
  all_goals unfold thereB
  all_goals simp [*]
  all_goals first | omega | (by_cases hn : n = 2 <;> simp [hn])
def IP (v : Value) (w : World) (e : Ending) (w' : World) : Prop := e = .returned v ∧ Below w.heap.size w w'
theorem IP.same {v v' : Value} {w : World} (h : v = v') : IP v' w (.returned v) w := ⟨by rw [h], Below.refl _ _⟩
theorem tag_val (n : Nat) : wrap64 (bits BinOp.and IntKind.u64 (n : Int) 7) = (n % 8 : Nat) := by
  have h : bits BinOp.and IntKind.u64 (n : Int) 7 = (n % 8 : Nat) := by
    have h1 : (BitVec.ofInt 64 (n : Int)).toNat = n % 2 ^ 64 := by
      rw [BitVec.toNat_ofInt]
      omega
    have h2 : ((BitVec.ofInt 64 (n : Int)) &&& (BitVec.ofInt 64 (7 : Int))).toNat = n % 8 := by
      rw [BitVec.toNat_and, h1, show (BitVec.ofInt 64 (7 : Int)).toNat = 2 ^ 3 - 1 from by decide, Nat.and_two_pow_sub_one_eq_mod]
      omega
    unfold bits
    show IntKind.wrap .u64 (((BitVec.ofInt 64 (n : Int)) &&& (BitVec.ofInt 64 (7 : Int))).toNat : Int) = _
    rw [h2]
    have : (n % 8) < 8 := Nat.mod_lt _ (by omega)
    simp only [IntKind.wrap, IntKind.signed, IntKind.bits, Bool.false_and, Bool.false_eq_true, if_false]
    omega
  rw [h]
  unfold wrap64
  omega
set_option maxHeartbeats 1000000 in
theorem Tryz.tag_any (n : Nat) (w : World) : Calls Tryz.prog 351 #[.int .u64 n] w (IP (.int .i64 (n % 8 : Nat)) w) := by
  go_enter Tryz.func351, Tryz.ntmps351
  go_wp2
  go_ret
  exact IP.same (by rw [← tag_val n]; rfl)
end Go.Proofs
namespace Go.Proofs
open Go.RowKit
set_option maxHeartbeats 1000000 in
theorem Tryz.low20 (n : Int) (w : World) : Calls Tryz.prog 10 #[.int .i64 n, .int .i64 20] w (IP (.int .i64 ((n % 18446744073709551616) % 20)) w) := by
  go_enter Tryz.func10, Tryz.ntmps10
  go_wp2
  go_ret
  refine IP.same ?_
  show Value.int IntKind.i64 (wrap64 ((IntKind.u64.wrap n).tmod 20)) = _
  congr 1
  have h1 : IntKind.u64.wrap n = n % 18446744073709551616 := by simp [IntKind.wrap, IntKind.signed, IntKind.bits]
  have h2 := Int.emod_nonneg n (show (18446744073709551616 : Int) ≠ 0 by omega)
  rw [h1, Int.tmod_eq_emod_of_nonneg h2]
  unfold wrap64
  omega
set_option maxHeartbeats 1000000 in
theorem Tryz.low41 (n : Int) (w : World) : Calls Tryz.prog 10 #[.int .i64 n, .int .i64 41] w (IP (.int .i64 ((n % 18446744073709551616) % 41)) w) := by
  go_enter Tryz.func10, Tryz.ntmps10
  go_wp2
  go_ret
  refine IP.same ?_
  show Value.int IntKind.i64 (wrap64 ((IntKind.u64.wrap n).tmod 41)) = _
  congr 1
  have h1 : IntKind.u64.wrap n = n % 18446744073709551616 := by simp [IntKind.wrap, IntKind.signed, IntKind.bits]
  have h2 := Int.emod_nonneg n (show (18446744073709551616 : Int) ≠ 0 by omega)
  rw [h1, Int.tmod_eq_emod_of_nonneg h2]
  unfold wrap64
  omega
end Go.Proofs
namespace Go.Proofs
open Go.RowKit Go.Shelf
attribute [local go_sem] Oper.semAt_some
/-- what a round keeps: whatever lay below n₀, and block Bs -/
def KpB (n₀ Bs : Nat) (W W' : World) : Prop := Below n₀ W W' ∧ W'.heap[Bs]? = W.heap[Bs]?
theorem KpB.refl (n₀ Bs : Nat) (W : World) : KpB n₀ Bs W W := ⟨Below.refl _ _, rfl⟩
theorem KpB.trans {n₀ Bs : Nat} {A B C : World} (h : KpB n₀ Bs A B) (k : KpB n₀ Bs B C) : KpB n₀ Bs A C := ⟨h.1.trans k.1, k.2.trans h.2⟩
theorem cell_of_block {W W' : World} {b : Nat} (h : W'.heap[b]? = W.heap[b]?) (o : Nat) : W'.cell? ⟨b, o, none⟩ = W.cell? ⟨b, o, none⟩ := by
  simp only [World.cell?, h]
set_option maxRecDepth 100000 in
set_option maxHeartbeats 2000000 in
theorem Tryz.back1_in (F : Fence) (n : Nat) (h7 : F.fn 151) (hro : F.round = none) (hn : 1 ≤ n) (l Bs n₀ b off cap : Nat) (c0 c1 c2 c3 c4 c5 c6 : Value) (hb : b < n₀) (J Jx : List Unit → World → Prop)
    (hY : ∀ pre x W, J pre W → pre.length < 1 → YieldAt F (n - 1) Tryz.prog l ((fun _ : Unit => #[Value.int .i64 0, .agg #[c0, c1, c2, c3, c4, c5, c6]]) x) W fun e W' =>
      (e = .returned (.bool true) ∧ J (pre ++ [x]) W' ∧ KpB n₀ Bs W W') ∨ (e = .returned (.bool false) ∧ Jx (pre ++ [x]) W'))
    (W : World) (hBs : W.cell? ⟨Bs, 0, none⟩ = some (.slice (some ⟨b, off, none⟩) 1 cap))
    (hc0 : W.cell? ⟨b, off, none⟩ = some c0) (hc1 : W.cell? ⟨b, off + 1, none⟩ = some c1) (hc2 : W.cell? ⟨b, off + 2, none⟩ = some c2) (hc3 : W.cell? ⟨b, off + 3, none⟩ = some c3)
    (hc4 : W.cell? ⟨b, off + 4, none⟩ = some c4) (hc5 : W.cell? ⟨b, off + 5, none⟩ = some c5) (hc6 : W.cell? ⟨b, off + 6, none⟩ = some c6) (h0 : J [] W) :
    CallsIn F n Tryz.prog 151 #[.func (.yield l) #[] #[], .pointer (some ⟨Bs, 0, none⟩)] W fun e W' => (∃ v, e = .returned v) ∧
      ((∃ ys, ys = [()] ∧ J ys W') ∨ (∃ pre, True ∧ Jx pre W')) := by
  refine callsIn_of_wp Tryz.func151 rfl h7 ?_ hro
  simp only [Tryz.ntmps151, List.size_toArray, List.length_cons, List.length_nil, Nat.reduceAdd, Nat.reduceSub, Array.replicate_succ, Array.replicate_zero, List.push_toArray, List.append_toArray, List.nil_append, List.cons_append]
  gi_wp2
  gi_loopw [3] (fun i wr => ∃ k : Bool, i = .int .i64 (if k then -1 else 0) ∧ J (if k then [()] else []) wr ∧ KpB n₀ Bs W wr)
    (fun i _ => (intOf i + 1).toNat)
  case atStart => exact ⟨false, rfl, h0, KpB.refl _ _ _⟩
  case round =>
    obtain ⟨k, rfl, hJs, hnx⟩ := hrel
    cases k with
    | false =>
      simp only [Bool.false_eq_true, if_false] at hJs ⊢
      have hBs' : wr.cell? ⟨Bs, 0, none⟩ = some (.slice (some ⟨b, off, none⟩) 1 cap) := (cell_of_block hnx.2 0).trans hBs
      have e0 : wr.cell? ⟨b, off, none⟩ = some c0 := (hnx.1.cell (p := ⟨b, off, none⟩) hb).trans hc0
      have e1 : wr.cell? ⟨b, off + 1, none⟩ = some c1 := (hnx.1.cell (p := ⟨b, off + 1, none⟩) hb).trans hc1
      have e2 : wr.cell? ⟨b, off + 2, none⟩ = some c2 := (hnx.1.cell (p := ⟨b, off + 2, none⟩) hb).trans hc2
      have e3 : wr.cell? ⟨b, off + 3, none⟩ = some c3 := (hnx.1.cell (p := ⟨b, off + 3, none⟩) hb).trans hc3
      have e4 : wr.cell? ⟨b, off + 4, none⟩ = some c4 := (hnx.1.cell (p := ⟨b, off + 4, none⟩) hb).trans hc4
      have e5 : wr.cell? ⟨b, off + 5, none⟩ = some c5 := (hnx.1.cell (p := ⟨b, off + 5, none⟩) hb).trans hc5
      have e6 : wr.cell? ⟨b, off + 6, none⟩ = some c6 := (hnx.1.cell (p := ⟨b, off + 6, none⟩) hb).trans hc6
      clear hBs hc0 hc1 hc2 hc3 hc4 hc5 hc6
      obtain ⟨fn, tmps, assign, body, hy, hR⟩ := hY [] () wr hJs (by simp)
      gi_wp2
      refine hR.mono ?_
      rintro e W3 (⟨rfl, hJ3, hk3⟩ | ⟨rfl, hJx3⟩)
      · gi_wp2
        go_roundw
        case rel => exact ⟨true, by simp, hJ3, hnx.trans hk3⟩
        case measure => simp [intOf]
      · gi_wp2
        refine bodyPost_ret (results_none rfl _ _ _) rfl ?_
        exact ⟨⟨_, rfl⟩, .inr ⟨_, trivial, hJx3⟩⟩
    | true =>
      simp only [if_true] at hJs ⊢
      gi_wp2
      go_end0
      exact ⟨⟨_, rfl⟩, .inl ⟨_, rfl, hJs⟩⟩
set_option maxHeartbeats 1000000 in
theorem Tryz.back_in (F : Fence) (n : Nat) (h5 : F.fn 97) (hro : F.round = none) (a : Option Addr) (len cap : Nat) (w : World) :
    CallsIn F n Tryz.prog 97 #[.slice a len cap] w fun e w' => e = .returned (.func (.func 151) #[] #[.pointer (some ⟨w.heap.size, 0, none⟩)]) ∧ w' = w.alloc (.cells #[.slice a len cap] 30) := by
  refine callsIn_of_wp Tryz.func97 rfl h5 ?_ hro
  simp only [Tryz.ntmps97, List.size_toArray, List.length_cons, List.length_nil, Nat.reduceAdd, Nat.reduceSub, Array.replicate_succ, Array.replicate_zero, List.push_toArray, List.append_toArray, List.nil_append, List.cons_append]
  gi_wp2
  go_ret
  exact ⟨rfl, rfl⟩
end Go.Proofs
namespace Go.Proofs
open Go.RowKit Go.Shelf
attribute [local go_sem] Oper.semAt_some
/-- block B holds these cells of terms -/
def Blk (W : World) (B : Nat) (cs : Array Value) : Prop := W.heap[B]? = some (.cells cs 32 (0, 0))
theorem Blk.lt {W : World} {B : Nat} {cs : Array Value} (h : Blk W B cs) : B < W.heap.size := (Array.getElem?_eq_some_iff.1 h).1
theorem Blk.cell {W : World} {B : Nat} {cs : Array Value} (h : Blk W B cs) (i : Nat) : W.cell? ⟨B, i, none⟩ = cs[i]? := by simp [World.cell?, show W.heap[B]? = _ from h]
theorem Blk.frozen {W : World} {B : Nat} {cs : Array Value} (h : Blk W B cs) (i : Nat) : W.frozen? ⟨B, i, none⟩ = false := by simp [World.frozen?, show W.heap[B]? = _ from h]
theorem Blk.new (W : World) (cs : Array Value) : Blk (W.alloc (.cells cs 32)) W.heap.size cs := World.alloc_heap_new W _
theorem Blk.kept {W W' : World} {row : Option Nat} {B : Nat} {cs : Array Value} (h : Blk W B cs) (hg : W.grownBy W' row) (hne : some B ≠ row) : Blk W' B cs := (hg.block B h.lt hne).trans h
theorem Blk.alloc {W : World} {B : Nat} {cs : Array Value} (h : Blk W B cs) (o : Obj) : Blk (W.alloc o) B cs := h.kept (World.grownBy_alloc W o none) (by simp)
theorem Blk.set {W : World} {B : Nat} {cs : Array Value} (h : Blk W B cs) (i : Nat) (v : Value) : Blk (W.setCell ⟨B, i, none⟩ v) B (cs.setIfInBounds i v) := by
  obtain ⟨hlt, hk⟩ := Array.getElem?_eq_some_iff.1 h
  show (W.heap.modify B _)[B]? = _
  rw [Array.getElem?_eq_getElem (by rw [Array.size_modify]; exact hlt), Array.getElem_modify_self, hk]
  rfl
theorem Blk.other {W : World} {B B' : Nat} {cs : Array Value} (h : Blk W B cs) (hne : B ≠ B') (i : Nat) (v : Value) : Blk (W.setCell ⟨B', i, none⟩ v) B cs :=
  (Below.heap_setCell _ _ _ B hne).trans h
theorem blk_own {β : Type} (B : Nat) (f : β → Array Value) : Own (fun s W => Blk W B (f s)) := fun s X Y row hs hg hrow =>
  hs.kept hg (fun e' => by obtain ⟨o, ho, hc⟩ := hrow B e'.symm; rw [show X.heap[B]? = _ from hs] at ho; cases ho; cases hc)
abbrev zeroC : Array Value := #[.int .i64 0, .int .i64 0, .bool false, .slice none 0 0, .int .u64 0, .string ⟨#[]⟩, .slice none 0 0]
abbrev nilC : Array Value := #[.int .i64 7, .int .i64 0, .bool false, .slice none 0 0, .int .u64 0, .string ⟨#[]⟩, .slice none 0 0]
abbrev consC (g : Nat) : Array Value := #[.int .i64 8, .int .i64 0, .bool false, .slice none 0 0, .int .u64 0, .string ⟨#[]⟩, .slice (some ⟨g, 0, none⟩) 2 2]
abbrev pairC (c0 c1 c2 c3 c4 c5 c6 : Value) : Array Value := #[c0, c1, c2, c3, c4, c5, c6, .int .i64 7, .int .i64 0, .bool false, .slice none 0 0, .int .u64 0, .string ⟨#[]⟩, .slice none 0 0]
/-- what holds behind the rounds that came -/
def Li (s : Nat) (c0 c1 c2 c3 c4 c5 c6 : Value) (pre : List Unit) (W : World) : Prop :=
  (pre = [] ∧ Blk W (s + 1) nilC) ∨ (pre ≠ [] ∧ ∃ g, s + 2 < g ∧ Blk W g (pairC c0 c1 c2 c3 c4 c5 c6) ∧ Blk W (s + 1) (consC g))
theorem Li.own (s : Nat) (c0 c1 c2 c3 c4 c5 c6 : Value) : Own (Li s c0 c1 c2 c3 c4 c5 c6) := fun pre X Y row hs hg hrow => by
  rcases hs with ⟨h1, h2⟩ | ⟨h1, g, h2, h3, h4⟩
  · exact .inl ⟨h1, blk_own (s + 1) (fun _ : Unit => nilC) () X Y row h2 hg hrow⟩
  · exact .inr ⟨h1, g, h2, blk_own g (fun _ : Unit => _) () X Y row h3 hg hrow, blk_own (s + 1) (fun _ : Unit => _) () X Y row h4 hg hrow⟩
abbrev set7 (W : World) (B : Nat) (v0 v1 v2 v3 v4 v5 v6 : Value) : World :=
  ((((((W.setCell ⟨B, 0, none⟩ v0).setCell ⟨B, 1, none⟩ v1).setCell ⟨B, 2, none⟩ v2).setCell ⟨B, 3, none⟩ v3).setCell ⟨B, 4, none⟩ v4).setCell ⟨B, 5, none⟩ v5).setCell ⟨B, 6, none⟩ v6
theorem set7_blk {W : World} {B : Nat} {a0 a1 a2 a3 a4 a5 a6 : Value} (h : Blk W B #[a0, a1, a2, a3, a4, a5, a6]) (v0 v1 v2 v3 v4 v5 v6 : Value) : Blk (set7 W B v0 v1 v2 v3 v4 v5 v6) B #[v0, v1, v2, v3, v4, v5, v6] := by
  have h7 := ((((((h.set 0 v0).set 1 v1).set 2 v2).set 3 v3).set 4 v4).set 5 v5).set 6 v6
  simpa only [List.setIfInBounds_toArray, List.set_cons_zero, List.set_cons_succ] using h7
theorem set7_other (W : World) {B B' : Nat} (ne : B' ≠ B) (v0 v1 v2 v3 v4 v5 v6 : Value) : (set7 W B v0 v1 v2 v3 v4 v5 v6).heap[B']? = W.heap[B']? :=
  (Below.heap_setCell _ _ _ _ ne).trans ((Below.heap_setCell _ _ _ _ ne).trans ((Below.heap_setCell _ _ _ _ ne).trans ((Below.heap_setCell _ _ _ _ ne).trans ((Below.heap_setCell _ _ _ _ ne).trans ((Below.heap_setCell _ _ _ _ ne).trans (Below.heap_setCell _ _ _ _ ne))))))
theorem set7_below {n : Nat} {W0 W : World} {B : Nat} (h : Below n W0 W) (hB : n ≤ B) (v0 v1 v2 v3 v4 v5 v6 : Value) : Below n W0 (set7 W B v0 v1 v2 v3 v4 v5 v6) :=
  ((((((h.setCell (p := ⟨B, 0, none⟩) hB v0).setCell (p := ⟨B, 1, none⟩) hB v1).setCell (p := ⟨B, 2, none⟩) hB v2).setCell (p := ⟨B, 3, none⟩) hB v3).setCell (p := ⟨B, 4, none⟩) hB v4).setCell (p := ⟨B, 5, none⟩) hB v5).setCell (p := ⟨B, 6, none⟩) hB v6
theorem set7_keeps (W : World) (B : Nat) (v0 v1 v2 v3 v4 v5 v6 : Value) : KeepsOthers W (set7 W B v0 v1 v2 v3 v4 v5 v6) :=
  ((((((KeepsOthers.setCell _ _ _).trans (KeepsOthers.setCell _ _ _)).trans (KeepsOthers.setCell _ _ _)).trans (KeepsOthers.setCell _ _ _)).trans (KeepsOthers.setCell _ _ _)).trans (KeepsOthers.setCell _ _ _)).trans (KeepsOthers.setCell _ _ _)
/-- the round's end -/
theorem list_end {w W : World} {n₀ : Nat} {k0 k1 k4 : Int} {k2 : Bool} {k5 : ByteArray} (hB1 : Below w.heap.size w W) (hN : Blk W (w.heap.size + 1) nilC) (hZ : Blk W w.heap.size zeroC) (hbig : w.heap.size + 3 ≤ W.heap.size) (x : Unit) (a' : Act) :
    ownPostG n₀ (KpB w.heap.size (w.heap.size + 1 + 1)) (fun pre W => ((Li w.heap.size (.int .i64 k0) (.int .i64 k1) (.bool k2) (.slice none 0 0) (.int .u64 k4) (.string k5) (.slice none 0 0) pre W ∧ Blk W w.heap.size zeroC) ∧ Below w.heap.size w W) ∧ w.heap.size + 3 ≤ W.heap.size) (fun _ _ _ => False) [x] W .normal a'
      ((set7 W (w.heap.size + 1) (.int .i64 8) (.int .i64 0) (.bool false) (.slice none 0 0) (.int .u64 0) (.string ⟨#[]⟩) (.slice (some ⟨W.heap.size, 0, none⟩) 2 2)).alloc (.cells (pairC (.int .i64 k0) (.int .i64 k1) (.bool k2) (.slice none 0 0) (.int .u64 k4) (.string k5) (.slice none 0 0)) 32)) := by
  have hS := set7_blk hN (.int .i64 8) (.int .i64 0) (.bool false) (.slice none 0 0) (.int .u64 0) (.string ⟨#[]⟩) (.slice (some ⟨W.heap.size, 0, none⟩) 2 2)
  have hsize : (set7 W (w.heap.size + 1) (.int .i64 8) (.int .i64 0) (.bool false) (.slice none 0 0) (.int .u64 0) (.string ⟨#[]⟩) (.slice (some ⟨W.heap.size, 0, none⟩) 2 2)).heap.size = W.heap.size := by simp
  have hBel := set7_below (Below.refl w.heap.size W) (Nat.le_succ w.heap.size) (.int .i64 8) (.int .i64 0) (.bool false) (.slice none 0 0) (.int .u64 0) (.string ⟨#[]⟩) (.slice (some ⟨W.heap.size, 0, none⟩) 2 2)
  have hO : ∀ B', B' ≠ w.heap.size + 1 → _ := fun B' ne => set7_other W (B := w.heap.size + 1) (B' := B') ne (.int .i64 8) (.int .i64 0) (.bool false) (.slice none 0 0) (.int .u64 0) (.string ⟨#[]⟩) (.slice (some ⟨W.heap.size, 0, none⟩) 2 2)
  have hKp := set7_keeps W (w.heap.size + 1) (.int .i64 8) (.int .i64 0) (.bool false) (.slice none 0 0) (.int .u64 0) (.string ⟨#[]⟩) (.slice (some ⟨W.heap.size, 0, none⟩) 2 2)
  generalize set7 W (w.heap.size + 1) (.int .i64 8) (.int .i64 0) (.bool false) (.slice none 0 0) (.int .u64 0) (.string ⟨#[]⟩) (.slice (some ⟨W.heap.size, 0, none⟩) 2 2) = V at hS hsize hBel hO hKp ⊢
  have hP := Blk.new V (pairC (.int .i64 k0) (.int .i64 k1) (.bool k2) (.slice none 0 0) (.int .u64 k4) (.string k5) (.slice none 0 0))
  rw [hsize] at hP
  have hBel' := hBel.alloc (by omega) (.cells (pairC (.int .i64 k0) (.int .i64 k1) (.bool k2) (.slice none 0 0) (.int .u64 k4) (.string k5) (.slice none 0 0)) 32)
  have hal : ∀ B', B' < V.heap.size → _ := fun B' hlt => Below.heap_alloc V (.cells (pairC (.int .i64 k0) (.int .i64 k1) (.bool k2) (.slice none 0 0) (.int .u64 k4) (.string k5) (.slice none 0 0)) 32) B' hlt
  refine ⟨(hKp.trans (KeepsOthers.alloc V _)).from _, ⟨hBel', (hal _ (by omega)).trans (hO _ (by omega))⟩, ⟨⟨.inr ⟨by simp, W.heap.size, by omega, hP, hS.alloc _⟩, (hal _ (by omega)).trans ((hO _ (by omega)).trans hZ)⟩, hB1.trans hBel'⟩, Nat.le_trans hbig hBel'.size⟩
/-- the function's end -/
theorem list_done {F : Fence} {n : Nat} {w W W0 : World} {k0 k1 k4 : Int} {k2 : Bool} {k5 : ByteArray} {g D : Nat} {tmps : Array Value} (ht : tmps[2]? = some (.pointer (some ⟨w.heap.size, 0, none⟩))) (hB1 : Below w.heap.size w W) (hZ : Blk W w.heap.size zeroC)
    (hP : Blk W g (pairC (.int .i64 k0) (.int .i64 k1) (.bool k2) (.slice none 0 0) (.int .u64 k4) (.string k5) (.slice none 0 0))) (hg : w.heap.size + 2 < g) (hK : W.heap[D]? = some (.deferred (some []))) (hsz : W0.heap.size = w.heap.size + 3) (hD : W0.heap.size ≤ D) :
    LeavesInM F n Tryz.prog Tryz.f52 tmps (fun e W' => ∃ g, e = .returned (.agg #[.int .i64 8, .int .i64 0, .bool false, .slice none 0 0, .int .u64 0, .string .empty, .slice (some ⟨g, 0, none⟩) 2 2]) ∧
      w.heap.size ≤ g ∧ W'.heap[g]? = some (.cells #[.int .i64 k0, .int .i64 k1, .bool k2, .slice none 0 0, .int .u64 k4, .string k5, .slice none 0 0, .int .i64 7, .int .i64 0, .bool false, .slice none 0 0, .int .u64 0, .string .empty, .slice none 0 0] 32 (0, 0)) ∧ Below w.heap.size w W') [] .returning
      ((set7 W w.heap.size (.int .i64 8) (.int .i64 0) (.bool false) (.slice none 0 0) (.int .u64 0) (.string ⟨#[]⟩) (.slice (some ⟨g, 0, none⟩) 2 2)).putObj D (.deferred none)) := by
  have hK' := (set7_keeps W w.heap.size (.int .i64 8) (.int .i64 0) (.bool false) (.slice none 0 0) (.int .u64 0) (.string ⟨#[]⟩) (.slice (some ⟨g, 0, none⟩) 2 2)).same D _ hK rfl
  have hZ5 := set7_blk hZ (.int .i64 8) (.int .i64 0) (.bool false) (.slice none 0 0) (.int .u64 0) (.string ⟨#[]⟩) (.slice (some ⟨g, 0, none⟩) 2 2)
  have hP5 : Blk (set7 W w.heap.size (.int .i64 8) (.int .i64 0) (.bool false) (.slice none 0 0) (.int .u64 0) (.string ⟨#[]⟩) (.slice (some ⟨g, 0, none⟩) 2 2)) g _ := (set7_other W (by omega) _ _ _ _ _ _ _).trans hP
  have hB5 := set7_below hB1 (Nat.le_refl _) (.int .i64 8) (.int .i64 0) (.bool false) (.slice none 0 0) (.int .u64 0) (.string ⟨#[]⟩) (.slice (some ⟨g, 0, none⟩) 2 2)
  generalize set7 W w.heap.size (.int .i64 8) (.int .i64 0) (.bool false) (.slice none 0 0) (.int .u64 0) (.string ⟨#[]⟩) (.slice (some ⟨g, 0, none⟩) 2 2) = W5 at hK' hZ5 hP5 hB5 ⊢
  have hZ6 := blk_own w.heap.size (fun _ : Unit => _) () W5 _ (some D) hZ5 (grownBy_putObj' W5 D (.deferred none)) (fun r e => by cases e; exact ⟨_, hK', rfl⟩)
  have hP6 := blk_own g (fun _ : Unit => _) () W5 _ (some D) hP5 (grownBy_putObj' W5 D (.deferred none)) (fun r e => by cases e; exact ⟨_, hK', rfl⟩)
  have hB6 := hB5.trans (belowK_b (w := W0) (by omega) W5 D _ (.deferred none) hD hK' rfl rfl)
  have n0 := hZ6.cell 0; have n1 := hZ6.cell 1; have n2 := hZ6.cell 2; have n3 := hZ6.cell 3; have n4 := hZ6.cell 4; have n5 := hZ6.cell 5; have n6 := hZ6.cell 6
  simp only [List.getElem?_toArray, List.getElem?_cons_zero, List.getElem?_cons_succ] at n0 n1 n2 n3 n4 n5 n6
  refine ⟨_, ?_, g, rfl, by omega, hP6, hB6⟩
  generalize W5.putObj D (.deferred none) = W6 at n0 n1 n2 n3 n4 n5 n6 ⊢
  simp [results, Tryz.f52, go_sem, n0, n1, n2, n3, n4, n5, n6, ht]
  rfl
set_option maxRecDepth 100000 in
set_option maxHeartbeats 6000000 in
theorem Tryz.list1_in (F : Fence) (n : Nat) (h52 : F.fn 52) (h97 : F.fn 97) (h151 : F.fn 151) (hro : F.round = none) (hn : 3 ≤ n) (b off cap : Nat) (k0 k1 k4 : Int) (k2 : Bool) (k5 : ByteArray) (w : World) (hb : b < w.heap.size)
    (hc0 : w.cell? ⟨b, off, none⟩ = some (.int .i64 k0)) (hc1 : w.cell? ⟨b, off + 1, none⟩ = some (.int .i64 k1)) (hc2 : w.cell? ⟨b, off + 2, none⟩ = some (.bool k2)) (hc3 : w.cell? ⟨b, off + 3, none⟩ = some (.slice none 0 0))
    (hc4 : w.cell? ⟨b, off + 4, none⟩ = some (.int .u64 k4)) (hc5 : w.cell? ⟨b, off + 5, none⟩ = some (.string k5)) (hc6 : w.cell? ⟨b, off + 6, none⟩ = some (.slice none 0 0)) :
    CallsIn F n Tryz.prog 52 #[.slice (some ⟨b, off, none⟩) 1 cap] w fun e W' => ∃ g, e = .returned (.agg #[.int .i64 8, .int .i64 0, .bool false, .slice none 0 0, .int .u64 0, .string .empty, .slice (some ⟨g, 0, none⟩) 2 2]) ∧
      w.heap.size ≤ g ∧ W'.heap[g]? = some (.cells #[(.int .i64 k0), (.int .i64 k1), (.bool k2), (.slice none 0 0), (.int .u64 k4), (.string k5), (.slice none 0 0), .int .i64 7, .int .i64 0, .bool false, .slice none 0 0, .int .u64 0, .string .empty, .slice none 0 0] 32 (0, 0)) ∧ Below w.heap.size w W' := by
  have h1 : 1 ≤ n := by omega
  refine callsIn_of_wp_marks Tryz.func52 rfl h52 ?_ hro
  simp only [Tryz.ntmps52, List.size_toArray, List.length_cons, List.length_nil, Nat.reduceAdd, Nat.reduceSub, Array.replicate_succ, Array.replicate_zero, List.push_toArray, List.append_toArray, List.nil_append, List.cons_append]
  gi_wp2_with (gi_at_call 97; refine (Tryz.back_in F (n - 1) h97 hro _ _ _ _).mono ?_; rintro e w' ⟨rfl, rfl⟩)
  have bZ := ((Blk.new w zeroC).alloc (.cells nilC 32)).alloc (.cells #[.slice (some ⟨b, off, none⟩) 1 cap] 30)
  have bN := (Blk.new (w.alloc (.cells zeroC 32)) nilC).alloc (.cells #[.slice (some ⟨b, off, none⟩) 1 cap] 30)
  have bB := Boxed.new ((w.alloc (.cells zeroC 32)).alloc (.cells nilC 32)) 30 (.slice (some ⟨b, off, none⟩) 1 cap)
  simp only [World.size_alloc] at bN bB
  have hB0 : Below w.heap.size w (((w.alloc (.cells zeroC 32)).alloc (.cells nilC 32)).alloc (.cells #[.slice (some ⟨b, off, none⟩) 1 cap] 30)) := (((Below.refl _ w).alloc (Nat.le_refl _) _).alloc (by simp) _).alloc (by simp; omega) _
  have hsz : (((w.alloc (.cells zeroC 32)).alloc (.cells nilC 32)).alloc (.cells #[.slice (some ⟨b, off, none⟩) 1 cap] 30)).heap.size = w.heap.size + 3 := by simp
  obtain ⟨W0, hW0⟩ : ∃ W0, ((w.alloc (.cells zeroC 32)).alloc (.cells nilC 32)).alloc (.cells #[.slice (some ⟨b, off, none⟩) 1 cap] 30) = W0 := ⟨_, rfl⟩
  rw [hW0] at bZ bN bB hB0 hsz ⊢
  clear hW0
  have hst : SeqStopsK F (n - 1) Tryz.prog 151 #[.pointer (some ⟨w.heap.size + 1 + 1, 0, none⟩)] (fun _ : Unit => #[Value.int .i64 0, .agg #[(.int .i64 k0), (.int .i64 k1), (.bool k2), (.slice none 0 0), (.int .u64 k4), (.string k5), (.slice none 0 0)]]) (KpB w.heap.size (w.heap.size + 1 + 1)) (fun ys => ys = [()]) (fun _ => True) 1 W0 := fun l J Jx W hW _ _ hY h0 => by
    have hk : ∀ o, W.cell? ⟨b, o, none⟩ = w.cell? ⟨b, o, none⟩ := fun o => (hW.cell (p := ⟨b, o, none⟩) (by show b < _; omega)).trans (hB0.cell (p := ⟨b, o, none⟩) hb)
    exact Tryz.back1_in F (n - 1) h151 hro (by omega) l (w.heap.size + 1 + 1) w.heap.size b off cap (.int .i64 k0) (.int .i64 k1) (.bool k2) (.slice none 0 0) (.int .u64 k4) (.string k5) (.slice none 0 0) hb J Jx hY W ((hW.cell (p := ⟨w.heap.size + 1 + 1, 0, none⟩) (show w.heap.size + 1 + 1 < W0.heap.size by omega)).trans bB.cell)
      ((hk _).trans hc0) ((hk _).trans hc1) ((hk _).trans hc2) ((hk _).trans hc3) ((hk _).trans hc4) ((hk _).trans hc5) ((hk _).trans hc6) h0
  refine wpIn_rangeFunc_ownH hro h1 (gf := 151) (lb := #[.pointer (some ⟨w.heap.size + 1 + 1, 0, none⟩)]) rfl h151 (enters_of Tryz.func151 (by kernel_rfl) rfl)
    hst KpB.trans (fun W l o o' hl h2 h3 h4 => ⟨belowK_b (w := W0) (by omega) W l o o' hl h2 h3 h4, World.putObj_heap_other (by omega)⟩) (Below.refl _ _) (fun _ => rfl)
    (fun pre W => ((Li w.heap.size (.int .i64 k0) (.int .i64 k1) (.bool k2) (.slice none 0 0) (.int .u64 k4) (.string k5) (.slice none 0 0) pre W ∧ Blk W w.heap.size zeroC) ∧ Below w.heap.size w W) ∧ w.heap.size + 3 ≤ W.heap.size)
    (fun _ _ _ => False)
    (OwnFrom.and (OwnFrom.and (OwnFrom.and (Own.from (Li.own _ _ _ _ _ _ _ _) _) (Own.from (blk_own _ (fun _ => zeroC)) _)) (ownFrom_below (Nat.le_refl _) (by omega))) (fun _ _ _ _ hs hg _ => Nat.le_trans hs hg.size))
    (fun _ _ _ _ _ hs _ _ => hs)
    ⟨⟨⟨.inl ⟨rfl, bN⟩, bZ⟩, hB0⟩, by omega⟩
    (fun _ a' W => ∃ Bx, w.heap.size + 2 < Bx ∧ Blk W Bx #[(.int .i64 k0), (.int .i64 k1), (.bool k2), (.slice none 0 0), (.int .u64 k4), (.string k5), (.slice none 0 0)] ∧ a' = { tmps := #[.slice (some ⟨b, off, none⟩) 1 cap, undef, .pointer (some ⟨w.heap.size, 0, none⟩), .pointer (some ⟨w.heap.size + 1, 0, none⟩), undef, .pointer (some ⟨Bx, 0, none⟩), .agg nilC, .slice (some ⟨b, off, none⟩) 1 cap, .func (.func 151) #[] #[.pointer (some ⟨w.heap.size + 1 + 1, 0, none⟩)], .int .i64 0, .agg #[(.int .i64 k0), (.int .i64 k1), (.bool k2), (.slice none 0 0), (.int .u64 k4), (.string k5), (.slice none 0 0)], undef, undef, undef, undef, undef], defers := [] })
    (fun x a' _ X Y row hs hg hr => by obtain ⟨Bx, h1, h2, h3⟩ := hs; exact ⟨Bx, h1, blk_own Bx (fun (_ : Unit) => #[(.int .i64 k0), (.int .i64 k1), (.bool k2), (.slice none 0 0), (.int .u64 k4), (.string k5), (.slice none 0 0)]) () X Y row h2 hg (fun r e => (hr r e).2), h3⟩)
    ?assign ?body ?done ?stop
  case assign =>
    rintro l pre x W K ⟨⟨⟨hL, hZ⟩, hB1⟩, hbig⟩ hK
    gi_wp2
    exact hK _ _ ((KeepsOthers.alloc _ _).from _) ⟨(Below.refl _ W).alloc hB1.size _, Below.heap_alloc W _ _ (by omega)⟩ ⟨⟨⟨(Li.own _ _ _ _ _ _ _ _).alloc _ hL, hZ.alloc _⟩, hB1.alloc hB1.size _⟩, by simp; omega⟩ ⟨W.heap.size, by omega, Blk.new W _, rfl⟩
  case body =>
    rintro l pre x a' W hl ⟨r, hr⟩ ⟨⟨⟨hL, hZ⟩, hB1⟩, hbig⟩ ⟨Bx, hBx, bX, rfl⟩ hlt
    have hpre : pre = [] := by cases pre with | nil => rfl | cons _ _ => simp at hlt
    subst hpre
    rcases hL with ⟨_, hN⟩ | ⟨h, _⟩
    · have x0 := bX.cell 0; have x1 := bX.cell 1; have x2 := bX.cell 2; have x3 := bX.cell 3; have x4 := bX.cell 4; have x5 := bX.cell 5; have x6 := bX.cell 6
      have n0 := hN.cell 0; have n1 := hN.cell 1; have n2 := hN.cell 2; have n3 := hN.cell 3; have n4 := hN.cell 4; have n5 := hN.cell 5; have n6 := hN.cell 6
      have f0 := hN.frozen 0; have f1 := hN.frozen 1; have f2 := hN.frozen 2; have f3 := hN.frozen 3; have f4 := hN.frozen 4; have f5 := hN.frozen 5; have f6 := hN.frozen 6
      simp only [List.getElem?_toArray, List.getElem?_cons_zero, List.getElem?_cons_succ] at x0 x1 x2 x3 x4 x5 x6 n0 n1 n2 n3 n4 n5 n6
      have hlt1 : w.heap.size + 1 < W.heap.size := hN.lt
      have hltx : Bx < W.heap.size := bX.lt
      gi_wp2
      exact list_end hB1 hN hZ hbig x _
    · exact absurd rfl h
  case done =>
    rintro D ys W hD rfl ⟨⟨⟨hL, hZ⟩, hB1⟩, hbig⟩ hK
    rcases hL with ⟨h, _⟩ | ⟨_, g, hg, hP, hC⟩
    · cases h
    · have n0 := hC.cell 0; have n1 := hC.cell 1; have n2 := hC.cell 2; have n3 := hC.cell 3; have n4 := hC.cell 4; have n5 := hC.cell 5; have n6 := hC.cell 6
      have z0 := hZ.cell 0; have z1 := hZ.cell 1; have z2 := hZ.cell 2; have z3 := hZ.cell 3; have z4 := hZ.cell 4; have z5 := hZ.cell 5; have z6 := hZ.cell 6
      have f0 := hZ.frozen 0; have f1 := hZ.frozen 1; have f2 := hZ.frozen 2; have f3 := hZ.frozen 3; have f4 := hZ.frozen 4; have f5 := hZ.frozen 5; have f6 := hZ.frozen 6
      simp only [List.getElem?_toArray, List.getElem?_cons_zero, List.getElem?_cons_succ] at n0 n1 n2 n3 n4 n5 n6 z0 z1 z2 z3 z4 z5 z6
      have hlt1 : w.heap.size + 1 < W.heap.size := hC.lt
      gi_wp2
      refine ⟨by simp, .inl ⟨_, _, rfl, run_takeDeferred ((set7_keeps W w.heap.size (.int .i64 8) (.int .i64 0) (.bool false) (.slice none 0 0) (.int .u64 0) (.string ⟨#[]⟩) (.slice (some ⟨g, 0, none⟩) 2 2)).same D _ hK rfl), ?_⟩⟩
      exact list_done rfl hB1 hZ hP hg hK hsz hD
  case stop =>
    rintro D c pre W _ _ h _
    exact h.elim
end Go.Proofs
