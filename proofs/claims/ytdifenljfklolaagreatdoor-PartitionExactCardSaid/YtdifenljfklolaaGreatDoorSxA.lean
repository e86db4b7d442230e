/- A small engine over the model's code: a piece of straight code is carried out by evaluation (the kernel's), memory of the call's own as a list of blocks. Plain theorems over any program. -/
import Derived.Orders
import Derived.Below
import Derived.Laws.AppendOwn
import Derived.Laws.OwnMore
import Derived.Laws.Sem
import Derived.Laws.World
import Derived.Laws.Rows
import Derived.KernelRfl
set_option linter.unusedVariables false
set_option linter.unusedSimpArgs false
namespace Go.Proofs.YtdifenljfklolaaGreatDoor.Sx
open Go Go.RowKit

/-! ### Memory -/
abbrev Snap := Nat → Option Obj
def SLe (H H' : Snap) : Prop := ∀ k o, H k = some o → H' k = some o
def Holds (H : Snap) (w : World) : Prop := ∀ k o, H k = some o → w.heap[k]? = some o
/-- What H' has beyond H lies at n or behind it. -/
def From (n : Nat) (H H' : Snap) : Prop := ∀ k, H' k ≠ none → H k ≠ none ∨ n ≤ k
theorem SLe.refl (H : Snap) : SLe H H := fun _ _ h => h
theorem SLe.trans {A B C : Snap} (h : SLe A B) (k : SLe B C) : SLe A C := fun _ _ e => k _ _ (h _ _ e)
theorem From.refl (n : Nat) (H : Snap) : From n H H := fun _ h => .inl h
theorem From.trans {n m : Nat} {A B C : Snap} (h : From n A B) (k : From m B C) (hn : n ≤ m) : From n A C := fun i hi => by
  rcases k i hi with h1 | h1
  · exact h i h1
  · exact .inr (Nat.le_trans hn h1)
theorem Holds.size {H : Snap} {w : World} (h : Holds H w) {k : Nat} {o : Obj} (hk : H k = some o) : k < w.heap.size := by
  have := h k o hk
  exact (Array.getElem?_eq_some_iff.1 this).1
theorem Holds.free {H : Snap} {w : World} (h : Holds H w) {k : Nat} (hk : w.heap.size ≤ k) : H k = none := by
  cases e : H k with
  | none => rfl
  | some o => have := h.size e; omega
theorem Holds.below {H : Snap} {w w' : World} (h : Holds H w) (hb : Below w.heap.size w w') : Holds H w' := fun k o e => by
  rw [hb.block k (h.size e)]
  exact h k o e

inductive Ent where
  | blk (b : Nat) (cells : List Value) (ty : Nat)
  | row (v : Value) (n sz e : Nat) (xs : List Value)
  | obj (b : Nat) (o : Obj)
def noCells : Obj → Bool
  | .cells .. => false
  | _ => true
def Ent.at_ : Ent → Option Nat
  | .blk b _ _ => some b
  | .row v _ _ _ _ => v.ownBlock
  | .obj b _ => some b
def Ent.lies (base : Nat) (w : World) : Ent → Prop
  | .blk b cs t => base ≤ b ∧ w.heap[b]? = some (.cells cs.toArray t (0, 0))
  | .row v n sz e xs => w.ownsRow base e sz v n xs
  | .obj b o => base ≤ b ∧ w.heap[b]? = some o ∧ noCells o = true
theorem Ent.lies_lt {base : Nat} {w : World} {e : Ent} (h : e.lies base w) : ∀ k, e.at_ = some k → base ≤ k ∧ k < w.heap.size := by
  intro k hk
  cases e with
  | blk b cs t =>
    simp only [Ent.at_, Option.some.injEq] at hk
    subst hk
    exact ⟨h.1, (Array.getElem?_eq_some_iff.1 h.2).1⟩
  | row v n sz e xs => exact World.ownsRow.lt h k hk
  | obj b o =>
    simp only [Ent.at_, Option.some.injEq] at hk
    subst hk
    exact ⟨h.1, (Array.getElem?_eq_some_iff.1 h.2.1).1⟩
theorem Ent.lies_kept {base : Nat} {w w' : World} {e : Ent} (h : e.lies base w) (row : Option Nat) (hg : w.grownBy w' row) (hne : ∀ k, e.at_ = some k → some k ≠ row) : e.lies base w' := by
  have hlt := Ent.lies_lt h
  cases e with
  | blk b cs t => exact ⟨h.1, by rw [hg.block b (hlt b rfl).2 (hne b rfl)]; exact h.2⟩
  | row v n sz e xs =>
    refine World.ownsRow.kept h hg ?_
    cases hv : v.ownBlock with
    | none => exact .inl rfl
    | some k => exact .inr (hne k hv)
  | obj b o => exact ⟨h.1, by rw [hg.block b (hlt b rfl).2 (hne b rfl)]; exact h.2.1, h.2.2⟩

structure Mem (w0 : World) (H0 H : Snap) (kb : List Ent) (w : World) : Prop where
  below : Below w0.heap.size w0 w
  holds : Holds H w
  le : SLe H0 H
  ents : ∀ e ∈ kb, e.lies w0.heap.size w ∧ ∀ k, e.at_ = some k → H k = none
  apart : kb.Pairwise (fun a b => ∀ k, a.at_ = some k → b.at_ ≠ some k)

theorem grown_alloc (w : World) (o : Obj) (row : Option Nat) : w.grownBy (w.alloc o) row := ⟨rfl, rfl, rfl, by simp, fun k hk _ => heap_alloc_old w o k hk⟩
theorem grown_below {w w' : World} (h : Below w.heap.size w w') (row : Option Nat) : w.grownBy w' row := ⟨h.os, h.tape, h.output, h.size, fun k hk _ => h.block k hk⟩

/-- A world that has grown, but for what belongs to none of the entries. -/
theorem Mem.grown {w0 : World} {H0 H : Snap} {kb : List Ent} {w w' : World} (h : Mem w0 H0 H kb w) (hg : w.grownBy w' none) : Mem w0 H0 H kb w' where
  below := h.below.trans ⟨hg.os, hg.tape, hg.output, hg.size, fun k hk => hg.block k (Nat.lt_of_lt_of_le hk h.below.size) (by simp)⟩
  holds := fun k o e => by rw [hg.block k (h.holds.size e) (by simp)]; exact h.holds k o e
  le := h.le
  ents := fun e he => ⟨Ent.lies_kept (h.ents e he).1 none hg (fun _ _ => by simp), (h.ents e he).2⟩
  apart := h.apart

theorem Mem.alloc {w0 : World} {H0 H : Snap} {kb : List Ent} {w : World} (h : Mem w0 H0 H kb w) (cs : Array Value) (t : Nat) :
    Mem w0 H0 H (kb ++ [.blk w.heap.size cs.toList t]) (w.alloc (.cells cs t (0, 0))) := by
  have h1 := h.grown (grown_alloc w (.cells cs t (0, 0)) none)
  refine { h1 with ents := ?_, apart := ?_ }
  · intro e he
    rcases List.mem_append.1 he with he | he
    · exact h1.ents e he
    · rw [List.mem_singleton] at he
      subst he
      refine ⟨⟨h.below.size, ?_⟩, fun k hk => ?_⟩
      · exact heap_alloc_new w _
      · simp only [Ent.at_, Option.some.injEq] at hk
        subst hk
        exact h.holds.free (Nat.le_refl _)
  · rw [List.pairwise_append]
    refine ⟨h.apart, List.pairwise_singleton _ _, fun a ha b hb k hk => ?_⟩
    rw [List.mem_singleton] at hb
    subst hb
    have := Ent.lies_lt (h.ents a ha).1 k hk
    simp only [Ent.at_, ne_eq, Option.some.injEq]
    omega

theorem apart_symm {a b : Ent} (h : ∀ k, a.at_ = some k → b.at_ ≠ some k) : ∀ k, b.at_ = some k → a.at_ ≠ some k := fun k hb ha => h k ha hb
theorem Mem.perm {w0 : World} {H0 H : Snap} {kb kb' : List Ent} {w : World} (h : Mem w0 H0 H kb w) (hp : kb.Perm kb') : Mem w0 H0 H kb' w :=
  { h with ents := fun e he => h.ents e (hp.mem_iff.2 he), apart := (hp.pairwise_iff (fun h => apart_symm h)).1 h.apart }
theorem Mem.allocMid {w0 : World} {H0 H : Snap} {kb kx : List Ent} {w : World} (h : Mem w0 H0 H (kb ++ kx) w) (cs : Array Value) (t : Nat) :
    Mem w0 H0 H ((kb ++ [.blk w.heap.size cs.toList t]) ++ kx) (w.alloc (.cells cs t (0, 0))) := by
  refine (h.alloc cs t).perm ?_
  rw [List.append_assoc, List.append_assoc]
  exact List.Perm.append_left kb List.perm_append_comm

theorem Mem.allocObj {w0 : World} {H0 H : Snap} {kb kx : List Ent} {w : World} (h : Mem w0 H0 H (kb ++ kx) w) {ob : Obj} (hob : noCells ob = true) :
    Mem w0 H0 H ((kb ++ [.obj w.heap.size ob]) ++ kx) (w.alloc ob) := by
  have h1 := h.grown (grown_alloc w ob none)
  have h2 : Mem w0 H0 H ((kb ++ kx) ++ [.obj w.heap.size ob]) (w.alloc ob) := by
    refine { h1 with ents := ?_, apart := ?_ }
    · intro e he
      rcases List.mem_append.1 he with he | he
      · exact h1.ents e he
      · rw [List.mem_singleton] at he
        subst he
        refine ⟨⟨h.below.size, heap_alloc_new w _, hob⟩, fun k hk => ?_⟩
        simp only [Ent.at_, Option.some.injEq] at hk
        subst hk
        exact h.holds.free (Nat.le_refl _)
    · rw [List.pairwise_append]
      refine ⟨h.apart, List.pairwise_singleton _ _, fun a ha b hb k hk => ?_⟩
      rw [List.mem_singleton] at hb
      subst hb
      have := Ent.lies_lt (h.ents a ha).1 k hk
      simp only [Ent.at_, ne_eq, Option.some.injEq]
      omega
  refine h2.perm ?_
  rw [List.append_assoc, List.append_assoc]
  exact List.Perm.append_left kb List.perm_append_comm

/-- One entry written anew. -/
theorem Mem.write {w0 : World} {H0 H : Snap} {kb : List Ent} {w w' : World} (h : Mem w0 H0 H kb w) (i : Nat) {e e' : Ent} (hi : kb[i]? = some e) (hat : e'.at_ = e.at_) {g : Nat} (hg0 : e.at_ = some g)
    (hg : w.grownBy w' (some g)) (hl : e'.lies w0.heap.size w') : Mem w0 H0 H (kb.set i e') w' := by
  have hmem : e ∈ kb := List.mem_of_getElem? hi
  have hlt := Ent.lies_lt (h.ents e hmem).1 g hg0
  have hH := (h.ents e hmem).2 g hg0
  have hil : i < kb.length := (List.getElem?_eq_some_iff.1 hi).1
  refine ⟨h.below.trans ⟨hg.os, hg.tape, hg.output, hg.size, fun k hk => hg.block k (Nat.lt_of_lt_of_le hk h.below.size) (by simp; omega)⟩, ?_, h.le, ?_, ?_⟩
  · intro k o hk
    rw [hg.block k (h.holds.size hk) (by intro e; injection e with e; subst e; rw [hH] at hk; cases hk)]
    exact h.holds k o hk
  · intro x hx
    rcases List.getElem?_of_mem hx with ⟨j, hj⟩
    by_cases hij : i = j
    · subst hij
      rw [List.getElem?_set_self hil] at hj
      injection hj with hj
      subst hj
      exact ⟨hl, fun k hk => by rw [hat, hg0] at hk; injection hk with hk; subst hk; exact hH⟩
    · rw [List.getElem?_set_ne hij] at hj
      have hxm := List.mem_of_getElem? hj
      refine ⟨Ent.lies_kept (h.ents x hxm).1 (some g) hg (fun k hk e1 => ?_), (h.ents x hxm).2⟩
      injection e1 with e1
      subst e1
      have hp := List.pairwise_iff_getElem.1 h.apart
      have hjl : j < kb.length := (List.getElem?_eq_some_iff.1 hj).1
      have e1 : kb[i] = e := (List.getElem?_eq_some_iff.1 hi).2
      have e2 : kb[j] = x := (List.getElem?_eq_some_iff.1 hj).2
      rcases Nat.lt_or_gt_of_ne hij with hlt2 | hlt2
      · have := hp i j hil hjl hlt2 k (by rw [e1]; exact hg0)
        rw [e2] at this
        exact this hk
      · have := hp j i hjl hil hlt2 k (by rw [e2]; exact hk)
        rw [e1] at this
        exact this hg0
  · rw [List.pairwise_iff_getElem]
    intro a b ha hb hab k hk
    have hp := List.pairwise_iff_getElem.1 h.apart a b (by simpa using ha) (by simpa using hb) hab
    have key : ∀ j (hj : j < (kb.set i e').length), ((kb.set i e')[j]).at_ = (kb[j]'(by simpa using hj)).at_ := by
      intro j hj
      by_cases hij : i = j
      · subst hij
        rw [List.getElem_set_self]
        rw [hat]
        rw [(List.getElem?_eq_some_iff.1 hi).2]
      · rw [List.getElem_set_ne hij]
    rw [key a ha] at hk
    rw [key b hb]
    exact hp k hk

/-! ### The frame -/
def lk : List (Nat × Value) → Nat → Option Value
  | [], _ => none
  | p :: r, t => match Nat.beq p.1 t with
    | true => some p.2
    | false => lk r t
def rm : List (Nat × Value) → Nat → List (Nat × Value)
  | [], _ => []
  | p :: r, t => match Nat.beq p.1 t with
    | true => rm r t
    | false => p :: rm r t
def evO (fr : List (Nat × Value)) : Operand → Option Value
  | .tmp t => lk fr t
  | .const v => some v
  | .global g => some (.pointer (some ⟨g, 0, none⟩))
  | .func f => some (.func (.func f) #[] #[])
def rho (fr : List (Nat × Value)) (x : Operand) : Value := (evO fr x).getD undef
def known (fr : List (Nat × Value)) : List Operand → Bool
  | [] => true
  | x :: r => match evO fr x with
    | some _ => known fr r
    | none => false
def putF (fr : List (Nat × Value)) : Option Tmp → Value → List (Nat × Value)
  | none, _ => fr
  | some d, v => (d, v) :: rm fr d
theorem lk_mem : ∀ {fr : List (Nat × Value)} {t : Nat} {v : Value}, lk fr t = some v → (t, v) ∈ fr
  | [], _, _, h => by cases h
  | p :: r, t, v, h => by
    unfold lk at h
    split at h
    · rename_i e
      injection h with h
      have := Nat.eq_of_beq_eq_true e
      subst this; subst h
      exact List.mem_cons_self
    · exact List.mem_cons_of_mem _ (lk_mem h)
theorem rm_mem : ∀ {fr : List (Nat × Value)} {t : Nat} {p : Nat × Value}, p ∈ rm fr t → p ∈ fr ∧ p.1 ≠ t
  | [], _, _, h => by cases h
  | q :: r, t, p, h => by
    unfold rm at h
    split at h
    · exact ⟨List.mem_cons_of_mem _ (rm_mem h).1, (rm_mem h).2⟩
    · rename_i e
      rcases List.mem_cons.1 h with rfl | h
      · exact ⟨List.mem_cons_self, Nat.ne_of_beq_eq_false e⟩
      · exact ⟨List.mem_cons_of_mem _ (rm_mem h).1, (rm_mem h).2⟩
def Slots (N : Nat) (fr : List (Nat × Value)) (a : Act) : Prop := a.defers = [] ∧ a.tmps.size = N ∧ ∀ p ∈ fr, a.tmps[p.1]? = some p.2
theorem Slots.lk {N : Nat} {fr : List (Nat × Value)} {a : Act} (h : Slots N fr a) {t : Nat} {v : Value} (hl : lk fr t = some v) : a.tmps[t]? = some v := h.2.2 _ (lk_mem hl)
theorem Slots.ev {N : Nat} {fr : List (Nat × Value)} {a : Act} (h : Slots N fr a) {x : Operand} {v : Value} (hx : evO fr x = some v) : a.eval x = v := by
  cases x with
  | tmp t => have := h.lk hx; simp [Act.eval, this]
  | const c => simpa [evO, Act.eval] using hx
  | global g => simpa [evO, Act.eval] using hx
  | func f => simpa [evO, Act.eval] using hx
theorem known_mem : ∀ {fr : List (Nat × Value)} {l : List Operand}, known fr l = true → ∀ x ∈ l, ∃ v, evO fr x = some v
  | _, [], _, _, h => by cases h
  | fr, y :: r, hk, x, h => by
    unfold known at hk
    split at hk
    · rename_i v hv
      rcases List.mem_cons.1 h with rfl | h
      · exact ⟨_, hv⟩
      · exact known_mem hk x h
    · cases hk
theorem Slots.exec {N : Nat} {fr : List (Nat × Value)} {a : Act} (h : Slots N fr a) {o : Oper} (hs : ∀ cs b, o.op ≠ .select cs b) (hk : known fr o.op.operands.toList = true) : execOp a.eval o = execOp (rho fr) o :=
  execOp_congr o hs fun x hx => by
    obtain ⟨v, hv⟩ := known_mem hk x (Array.mem_toList_iff.2 hx)
    rw [h.ev hv]
    simp [rho, hv]
theorem Slots.put {N : Nat} {fr : List (Nat × Value)} {a : Act} (h : Slots N fr a) {d : Option Tmp} (hd : ∀ t, d = some t → t < N) (v : Value) : Slots N (putF fr d v) (a.put d v) := by
  cases d with
  | none => exact h
  | some d =>
    refine ⟨h.1, by simpa [Act.put] using h.2.1, fun p hp => ?_⟩
    have hdN := hd d rfl
    rcases List.mem_cons.1 hp with rfl | hp
    · simp [Act.put, h.2.1, hdN]
    · obtain ⟨h1, h2⟩ := rm_mem hp
      simp only [Act.put]
      rw [Array.getElem?_setIfInBounds_ne (Ne.symm h2)]
      exact h.2.2 p h1

/-! ### An operation, carried out by evaluation -/
inductive Hint where
  | K (i off : Nat)
  | X (v : Value)
  | R (i j : Nat) (v : Value)
  | RS (i j : Nat)
  | N
  | NO
  | GO (i : Nat)
  | SO (i : Nat)
def HasCell (H : Snap) (a : Addr) (v : Value) : Prop := ∃ cs t fr, H a.block = some (.cells cs t fr) ∧ a.spot = none ∧ cs[a.off]? = some v
def RowAt (rv : Value) (a : Addr) (j : Nat) : Prop := ∃ g n cap, rv = .slice (some ⟨g, 0, none⟩) n cap ∧ a = ⟨g, j, none⟩
structure Out (α : Type) where
  val : α
  kb : List Ent
  nb : Nat
  E : List (Nat × Nat)
  ex : List Prop
def Out.eqn {α : Type} (o : Out α) (x y : Nat) : Out α := { o with E := (x, y) :: o.E }
def Out.and {α : Type} (o : Out α) (p : Prop) : Out α := { o with ex := p :: o.ex }
def oneCell : Value → Bool
  | .agg _ | .tuple _ => false
  | _ => true
def asRow : Obj → Option (List Value × Nat)
  | .cells cs t fr => match Nat.beq fr.1 0, Nat.beq fr.2 0 with
    | true, true => some (cs.toList, t)
    | _, _ => none
  | _ => none
theorem asRow_some {ob : Obj} {p : List Value × Nat} (h : asRow ob = some p) : ob = .cells p.1.toArray p.2 (0, 0) := by
  unfold asRow at h
  split at h
  · rename_i cs t fr
    split at h
    · rename_i h1 h2
      obtain ⟨a, b⟩ := fr
      have h3 : a = 0 := Nat.eq_of_beq_eq_true h1
      have h4 : b = 0 := Nat.eq_of_beq_eq_true h2
      rw [h3, h4]
      injection h with h
      rw [← h]
    · cases h
  · cases h
def go {α : Type} (P : Program) (H : Snap) : Sem α → List Ent → Nat → List Hint → Option (Out α)
  | .pure a, kb, nb, [] => some ⟨a, kb, nb, [], []⟩
  | .program k, kb, nb, hs => go P H (k P) kb nb hs
  | .mark _ k, kb, nb, hs => go P H k kb nb hs
  | .load _ a k, kb, nb, .K i off :: hs => match kb[i]? with
    | some (.blk b cs _) => match a.spot, Nat.beq a.off off, cs[off]? with
      | none, true, some v => (go P H (k v) kb nb hs).map (·.eqn a.block b)
      | _, _, _ => none
    | _ => none
  | .load _ a k, kb, nb, .X v :: hs => (go P H (k v) kb nb hs).map (·.and (HasCell H a v))
  | .load _ a k, kb, nb, .R i j v :: hs => match kb[i]? with
    | some (.row rv _ _ _ xs) => (go P H (k v) kb nb hs).map (·.and (RowAt rv a j ∧ xs[j]? = some v))
    | _ => none
  | .store _ a v k, kb, nb, .K i off :: hs => match kb[i]? with
    | some (.blk b cs t) => match a.spot, Nat.beq a.off off, oneCell v, Nat.ble (off + 1) cs.length with
      | none, true, true, true => (go P H k (kb.set i (.blk b (cs.set off v) t)) nb hs).map (·.eqn a.block b)
      | _, _, _, _ => none
    | _ => none
  | .store _ a v k, kb, nb, .RS i j :: hs => match kb[i]? with
    | some (.row rv n sz e xs) => match oneCell v with
      | true => (go P H k (kb.set i (.row rv n sz e (xs.set j v))) nb hs).map (·.and (RowAt rv a j ∧ j < xs.length))
      | false => none
    | _ => none
  | .new ob k, kb, nb, .N :: hs => match asRow ob with
    | some p => go P H (k nb) (kb ++ [.blk nb p.1 p.2]) (nb + 1) hs
    | none => none
  | .new ob k, kb, nb, .NO :: hs => match noCells ob with
    | true => go P H (k nb) (kb ++ [.obj nb ob]) (nb + 1) hs
    | false => none
  | .getObj r k, kb, nb, .GO i :: hs => match kb[i]? with
    | some (.obj b o) => (go P H (k o) kb nb hs).map (·.eqn r b)
    | _ => none
  | .setObj r o k, kb, nb, .SO i :: hs => match kb[i]? with
    | some (.obj b _) => match noCells o with
      | true => (go P H k (kb.set i (.obj b o)) nb hs).map (·.eqn r b)
      | false => none
    | _ => none
  | _, _, _, _ => none
def allE : List (Nat × Nat) → Prop
  | [] => True
  | p :: r => p.1 = p.2 ∧ allE r
def dup : List Nat → List (Nat × Nat)
  | [] => []
  | x :: r => (x, x) :: dup r
theorem allE_dup : ∀ l, allE (dup l)
  | [] => trivial
  | _ :: r => ⟨rfl, allE_dup r⟩
theorem allE_append : ∀ {a b : List (Nat × Nat)}, allE (a ++ b) → allE a ∧ allE b
  | [], _, h => ⟨trivial, h⟩
  | p :: r, b, h => ⟨⟨h.1, (allE_append h.2).1⟩, (allE_append h.2).2⟩
def allP : List Prop → Prop
  | [] => True
  | p :: r => p ∧ allP r
end Go.Proofs.YtdifenljfklolaaGreatDoor.Sx
