/- The engine's soundness: what evaluation says, the model's run does; code in sequence, tests, loops, calls. Plain theorems over any program. -/
import Derived.Test.YtdifenljfklolaaGreatDoorSxA
import Derived.Tactics
import Derived.Laws.Sem
set_option linter.unusedVariables false
set_option linter.unusedSimpArgs false
namespace Go.Proofs.YtdifenljfklolaaGreatDoor.Sx
open Go Go.RowKit

theorem cell_of_blk {w : World} {b off : Nat} {cs : List Value} {t : Nat} (h : w.heap[b]? = some (.cells cs.toArray t (0, 0))) : w.cell? ⟨b, off, none⟩ = cs[off]? := by
  simp [World.cell?, h]
theorem setCell_grown (w : World) (a : Addr) (v : Value) : w.grownBy (w.setCell a v) (some a.block) :=
  ⟨rfl, rfl, rfl, by simp [World.setCell], fun k hk hne => by
    have : a.block ≠ k := fun e => hne (by rw [e])
    simp [World.setCell, Array.getElem?_modify, this]⟩
theorem setCell_blk {w : World} {b off : Nat} {cs : List Value} {t : Nat} (h : w.heap[b]? = some (.cells cs.toArray t (0, 0))) (v : Value) :
    (w.setCell ⟨b, off, none⟩ v).heap[b]? = some (.cells (cs.set off v).toArray t (0, 0)) := by
  simp [World.setCell, Array.getElem?_modify, h, List.setIfInBounds_toArray]

theorem Mem.writeL {w0 : World} {H0 H : Snap} {kb kx : List Ent} {w w' : World} (h : Mem w0 H0 H (kb ++ kx) w) (i : Nat) {e e' : Ent} (hi : kb[i]? = some e) (hat : e'.at_ = e.at_) {g : Nat} (hg0 : e.at_ = some g)
    (hg : w.grownBy w' (some g)) (hl : e'.lies w0.heap.size w') : Mem w0 H0 H (kb.set i e' ++ kx) w' := by
  have hil : i < kb.length := (List.getElem?_eq_some_iff.1 hi).1
  have h1 := h.write i (by rw [List.getElem?_append_left hil]; exact hi) hat hg0 hg hl
  rwa [List.set_append_left _ _ hil] at h1
theorem has_cell {H : Snap} {w : World} {a : Addr} {v : Value} (hh : Holds H w) (h : HasCell H a v) : w.cell? a = some v := by
  obtain ⟨cs, t, fr, h1, h2, h3⟩ := h
  have h4 := hh _ _ h1
  simp [World.cell?, h4, h2, h3]

section
variable {P : Program} {H w0H : Snap} {w0 : World} {kx : List Ent}
theorem oneCell_not {v : Value} (h : oneCell v = true) : (∀ c, v ≠ .agg c) ∧ ∀ c, v ≠ .tuple c := by
  constructor <;> (intro c e; subst e; cases h)
theorem run_store_cell {α : Type} {m : Mode} {a : Addr} {v u : Value} {k : Sem α} {w : World} (hv : oneCell v = true) (hc : w.cell? a = some u) (hf : w.frozen? a = false) :
    (Sem.store m a v k).run P w = k.run P (w.setCell a v) := by
  obtain ⟨h1, h2⟩ := oneCell_not hv
  cases v <;> simp_all [Sem.run]

theorem out_map {α : Type} {x : Option (Out α)} {o : Out α} {f : Out α → Out α} (h : x.map f = some o) : ∃ p, x = some p ∧ o = f p := by
  cases x with
  | none => cases h
  | some p => exact ⟨p, rfl, (Option.some.inj h).symm⟩

theorem go_run {α : Type} : ∀ (s : Sem α) (kb : List Ent) (nb : Nat) (hs : List Hint) (o : Out α), go P H s kb nb hs = some o → allE o.E → allP o.ex → ∀ w, Mem w0 w0H H (kb ++ kx) w → nb = w.heap.size →
    ∃ w', s.run P w = .ok o.val w' ∧ Mem w0 w0H H (o.kb ++ kx) w' ∧ o.nb = w'.heap.size
  | .pure a, kb, nb, [], o, h, _, _, w, hm, hn => by
    simp only [go, Option.some.injEq] at h
    subst h
    exact ⟨w, rfl, hm, hn⟩
  | .pure a, kb, nb, _ :: _, o, h, _, _, w, hm, hn => by simp [go] at h
  | .program k, kb, nb, hs, o, h, hl, hx, w, hm, hn => by
    simp only [go] at h
    simpa only [Sem.run] using go_run (k P) kb nb hs o h hl hx w hm hn
  | .mark _ k, kb, nb, hs, o, h, hl, hx, w, hm, hn => by
    simp only [go] at h
    simpa only [Sem.run] using go_run k kb nb hs o h hl hx w hm hn
  | .load m a k, kb, nb, [], o, h, _, _, w, hm, hn => by simp [go] at h
  | .load m a k, kb, nb, .K i off :: hs, o, h, hl, hx, w, hm, hn => by
    simp only [go] at h
    split at h
    · rename_i b cs t hi
      split at h
      · rename_i v hsp hoff hv
        obtain ⟨p, hp, rfl⟩ := out_map h
        simp only [Out.eqn, allE] at hl
        have hoff := Nat.eq_of_beq_eq_true hoff
        have hl1 := (hm.ents _ (List.mem_append_left kx (List.mem_of_getElem? hi))).1
        have hc : w.cell? a = some v := by
          obtain ⟨ab, ao, asp⟩ := a
          simp only at hsp hoff hl
          rw [hsp, hoff, hl.1, cell_of_blk hl1.2]
          exact hv
        obtain ⟨w', h1, h2, h3⟩ := go_run (k v) kb nb hs p hp hl.2 hx w hm hn
        exact ⟨w', by simp only [Sem.run, hc]; exact h1, h2, h3⟩
      · cases h
    · cases h
  | .load m a k, kb, nb, .X v :: hs, o, h, hl, hx, w, hm, hn => by
    simp only [go] at h
    obtain ⟨p, hp, rfl⟩ := out_map h
    simp only [Out.and, allP] at hx hl
    obtain ⟨w', h1, h2, h3⟩ := go_run (k v) kb nb hs p hp hl hx.2 w hm hn
    exact ⟨w', by simp only [Sem.run, has_cell hm.holds hx.1]; exact h1, h2, h3⟩
  | .load m a k, kb, nb, .R i j v :: hs, o, h, hl, hx, w, hm, hn => by
    simp only [go] at h
    split at h
    · rename_i rv n sz e xs hi
      obtain ⟨p, hp, rfl⟩ := out_map h
      simp only [Out.and, allP] at hx hl
      obtain ⟨⟨⟨g, n', cap, rfl, rfl⟩, hj⟩, hx2⟩ := hx
      have hl1 : w.ownsRow w0.heap.size e sz (.slice (some ⟨g, 0, none⟩) n' cap) n xs := (hm.ents _ (List.mem_append_left kx (List.mem_of_getElem? hi))).1
      have hc : w.cell? ⟨g, j, none⟩ = some v := by
        have := hl1.cells (g := g) rfl j v hj
        have ha : (⟨g, 0, none⟩ : Addr).add j = ⟨g, j, none⟩ := by unfold Addr.add; split <;> simp_all
        rwa [ha] at this
      obtain ⟨w', h1, h2, h3⟩ := go_run (k v) kb nb hs p hp hl hx2 w hm hn
      exact ⟨w', by simp only [Sem.run, hc]; exact h1, h2, h3⟩
    · cases h
  | .load m a k, kb, nb, .RS _ _ :: hs, o, h, _, _, w, hm, hn => by simp [go] at h
  | .load m a k, kb, nb, .NO :: hs, o, h, _, _, w, hm, hn => by simp [go] at h
  | .load m a k, kb, nb, .GO _ :: hs, o, h, _, _, w, hm, hn => by simp [go] at h
  | .load m a k, kb, nb, .SO _ :: hs, o, h, _, _, w, hm, hn => by simp [go] at h
  | .load m a k, kb, nb, .N :: hs, o, h, _, _, w, hm, hn => by simp [go] at h
  | .store m a v k, kb, nb, [], o, h, _, _, w, hm, hn => by simp [go] at h
  | .store m a v k, kb, nb, .K i off :: hs, o, h, hl, hx, w, hm, hn => by
    simp only [go] at h
    split at h
    · rename_i b cs t hi
      split at h
      · rename_i hsp hoff hv hle
        obtain ⟨p, hp, rfl⟩ := out_map h
        simp only [Out.eqn, allE] at hl
        have hoff := Nat.eq_of_beq_eq_true hoff
        have hle := Nat.le_of_ble_eq_true hle
        have hl1 := (hm.ents _ (List.mem_append_left kx (List.mem_of_getElem? hi))).1
        have ha : a = ⟨b, off, none⟩ := by
          obtain ⟨ab, ao, asp⟩ := a
          simp only at hsp hoff hl
          rw [hsp, hoff, hl.1]
        subst ha
        have hc : w.cell? ⟨b, off, none⟩ = some (cs[off]'(by omega)) := by rw [cell_of_blk hl1.2]; exact List.getElem?_eq_getElem (by omega)
        have hf : w.frozen? ⟨b, off, none⟩ = false := by simp [World.frozen?, hl1.2]
        have hm2 := hm.writeL i hi (e' := .blk b (cs.set off v) t) rfl (g := b) rfl (setCell_grown w ⟨b, off, none⟩ v) ⟨hl1.1, setCell_blk hl1.2 v⟩
        obtain ⟨w', h1, h2, h3⟩ := go_run k _ nb hs p hp hl.2 hx _ hm2 (by rw [hn]; simp [World.setCell])
        exact ⟨w', by rw [run_store_cell hv hc hf]; exact h1, h2, h3⟩
      · cases h
    · cases h
  | .store m a v k, kb, nb, .X _ :: hs, o, h, _, _, w, hm, hn => by simp [go] at h
  | .store m a v k, kb, nb, .NO :: hs, o, h, _, _, w, hm, hn => by simp [go] at h
  | .store m a v k, kb, nb, .GO _ :: hs, o, h, _, _, w, hm, hn => by simp [go] at h
  | .store m a v k, kb, nb, .SO _ :: hs, o, h, _, _, w, hm, hn => by simp [go] at h
  | .store m a v k, kb, nb, .R _ _ _ :: hs, o, h, _, _, w, hm, hn => by simp [go] at h
  | .store m a v k, kb, nb, .RS i j :: hs, o, h, hl, hx, w, hm, hn => by
    simp only [go] at h
    split at h
    · rename_i rv n sz e xs hi
      split at h
      · rename_i hv
        obtain ⟨p, hp, rfl⟩ := out_map h
        simp only [Out.and, allP] at hx hl
        obtain ⟨⟨⟨g, n', cap, rfl, rfl⟩, hj⟩, hx2⟩ := hx
        have hl1 : w.ownsRow w0.heap.size e sz (.slice (some ⟨g, 0, none⟩) n' cap) n xs := (hm.ents _ (List.mem_append_left kx (List.mem_of_getElem? hi))).1
        have hn' : n' = n := by
          rcases hl1.2 with ⟨h', _⟩ | ⟨g', cap', cur, h', _⟩
          · cases h'
          · injection h'
        subst hn'
        have hc : w.cell? ⟨g, j, none⟩ = some (xs[j]'hj) := by
          have := hl1.cells (g := g) rfl j (xs[j]'hj) (List.getElem?_eq_getElem hj)
          have ha : (⟨g, 0, none⟩ : Addr).add j = ⟨g, j, none⟩ := by unfold Addr.add; split <;> simp_all
          rwa [ha] at this
        have hf := hl1.frozenAt j
        have hst := hl1.stored j v
        have hm2 := hm.writeL i hi (e' := .row (.slice (some ⟨g, 0, none⟩) n' cap) n' sz e (xs.set j v)) rfl (g := g) rfl (setCell_grown w ⟨g, j, none⟩ v) hst.1
        obtain ⟨w', h1, h2, h3⟩ := go_run k _ nb hs p hp hl hx2 _ hm2 (by rw [hn]; simp [World.setCell])
        exact ⟨w', by rw [run_store_cell hv hc hf]; exact h1, h2, h3⟩
      · cases h
    · cases h
  | .store m a v k, kb, nb, .N :: hs, o, h, _, _, w, hm, hn => by simp [go] at h
  | .new ob k, kb, nb, [], o, h, _, _, w, hm, hn => by simp [go] at h
  | .new ob k, kb, nb, .K _ _ :: hs, o, h, _, _, w, hm, hn => by simp [go] at h
  | .new ob k, kb, nb, .GO _ :: hs, o, h, _, _, w, hm, hn => by simp [go] at h
  | .new ob k, kb, nb, .SO _ :: hs, o, h, _, _, w, hm, hn => by simp [go] at h
  | .new ob k, kb, nb, .X _ :: hs, o, h, _, _, w, hm, hn => by simp [go] at h
  | .new ob k, kb, nb, .R _ _ _ :: hs, o, h, _, _, w, hm, hn => by simp [go] at h
  | .new ob k, kb, nb, .RS _ _ :: hs, o, h, _, _, w, hm, hn => by simp [go] at h
  | .new ob k, kb, nb, .N :: hs, o, h, hl, hx, w, hm, hn => by
    simp only [go] at h
    split at h
    · rename_i p hp
      have := asRow_some hp
      subst this
      subst hn
      have hm2 : Mem w0 w0H H ((kb ++ [.blk w.heap.size p.1 p.2]) ++ kx) (w.alloc (.cells p.1.toArray p.2 (0, 0))) := hm.allocMid p.1.toArray p.2
      obtain ⟨w', h1, h2, h3⟩ := go_run (k w.heap.size) _ _ hs o h hl hx _ hm2 (by simp)
      exact ⟨w', by unfold Sem.run; exact h1, h2, h3⟩
    · cases h
  | .new ob k, kb, nb, .NO :: hs, o, h, hl, hx, w, hm, hn => by
    simp only [go] at h
    split at h
    · rename_i hob
      subst hn
      have hm2 : Mem w0 w0H H ((kb ++ [.obj w.heap.size ob]) ++ kx) (w.alloc ob) := hm.allocObj hob
      obtain ⟨w', h1, h2, h3⟩ := go_run (k w.heap.size) _ _ hs o h hl hx _ hm2 (by simp)
      exact ⟨w', by unfold Sem.run; exact h1, h2, h3⟩
    · cases h
  | .shape .., kb, nb, hs, o, h, _, _, w, hm, hn => by simp [go] at h
  | .freeze .., kb, nb, hs, o, h, _, _, w, hm, hn => by simp [go] at h
  | .frozen .., kb, nb, hs, o, h, _, _, w, hm, hn => by simp [go] at h
  | .getObj r k, kb, nb, .GO i :: hs, o, h, hl, hx, w, hm, hn => by
    simp only [go] at h
    split at h
    · rename_i b ob hi
      obtain ⟨p, hp, rfl⟩ := out_map h
      simp only [Out.eqn, allE] at hl
      obtain ⟨rfl, hl2⟩ := hl
      obtain ⟨w', h1, h2, h3⟩ := go_run (k ob) kb nb hs p hp hl2 hx w hm hn
      have hl1 : w0.heap.size ≤ r ∧ w.heap[r]? = some ob ∧ noCells ob = true := (hm.ents _ (List.mem_append_left kx (List.mem_of_getElem? hi))).1
      refine ⟨w', ?_, h2, h3⟩
      unfold Sem.run
      rw [hl1.2.1]
      have h4 := hl1.2.2
      cases ob <;> first | exact h1 | cases h4
    · cases h
  | .setObj r ob k, kb, nb, .SO i :: hs, o, h, hl, hx, w, hm, hn => by
    simp only [go] at h
    split at h
    · rename_i b ob0 hi
      split at h
      · rename_i hob
        obtain ⟨p, hp, rfl⟩ := out_map h
        simp only [Out.eqn, allE] at hl
        obtain ⟨rfl, hl2⟩ := hl
        have hl1 : w0.heap.size ≤ r ∧ w.heap[r]? = some ob0 ∧ noCells ob0 = true := (hm.ents _ (List.mem_append_left kx (List.mem_of_getElem? hi))).1
        have hrs : r < w.heap.size := (Array.getElem?_eq_some_iff.1 hl1.2.1).1
        have hg : w.grownBy { w with heap := w.heap.setIfInBounds r ob } (some r) := ⟨rfl, rfl, rfl, by simp, fun k hk hne => by
          have : r ≠ k := fun e => hne (by rw [e])
          simp [Array.getElem?_setIfInBounds, this]⟩
        have hm2 := hm.writeL i hi (e' := .obj r ob) rfl (g := r) rfl hg ⟨hl1.1, by simp [Array.getElem?_setIfInBounds, hrs], hob⟩
        obtain ⟨w', h1, h2, h3⟩ := go_run k _ nb hs p hp hl2 hx _ hm2 (by rw [hn]; simp)
        refine ⟨w', ?_, h2, h3⟩
        unfold Sem.run
        rw [hl1.2.1]
        have h4 := hl1.2.2
        cases ob0 <;> first | exact h1 | cases h4
      · cases h
    · cases h
  | .getObj .., kb, nb, [], o, h, _, _, w, hm, hn => by simp [go] at h
  | .setObj .., kb, nb, [], o, h, _, _, w, hm, hn => by simp [go] at h
  | .getObj .., kb, nb, .K _ _ :: _, o, h, _, _, w, hm, hn => by simp [go] at h
  | .setObj .., kb, nb, .K _ _ :: _, o, h, _, _, w, hm, hn => by simp [go] at h
  | .getObj .., kb, nb, .X _ :: _, o, h, _, _, w, hm, hn => by simp [go] at h
  | .setObj .., kb, nb, .X _ :: _, o, h, _, _, w, hm, hn => by simp [go] at h
  | .getObj .., kb, nb, .R _ _ _ :: _, o, h, _, _, w, hm, hn => by simp [go] at h
  | .setObj .., kb, nb, .R _ _ _ :: _, o, h, _, _, w, hm, hn => by simp [go] at h
  | .getObj .., kb, nb, .RS _ _ :: _, o, h, _, _, w, hm, hn => by simp [go] at h
  | .setObj .., kb, nb, .RS _ _ :: _, o, h, _, _, w, hm, hn => by simp [go] at h
  | .getObj .., kb, nb, .N :: _, o, h, _, _, w, hm, hn => by simp [go] at h
  | .setObj .., kb, nb, .N :: _, o, h, _, _, w, hm, hn => by simp [go] at h
  | .getObj .., kb, nb, .NO :: _, o, h, _, _, w, hm, hn => by simp [go] at h
  | .setObj .., kb, nb, .NO :: _, o, h, _, _, w, hm, hn => by simp [go] at h
  | .getObj .., kb, nb, .SO _ :: _, o, h, _, _, w, hm, hn => by simp [go] at h
  | .setObj .., kb, nb, .GO _ :: _, o, h, _, _, w, hm, hn => by simp [go] at h
  | .choose .., kb, nb, hs, o, h, _, _, w, hm, hn => by simp [go] at h
  | .sys .., kb, nb, hs, o, h, _, _, w, hm, hn => by simp [go] at h
  | .halt _, kb, nb, hs, o, h, _, _, w, hm, hn => by simp [go] at h
end

/-! ### Operations that evaluation alone does not decide: an index, a cut, a division -/
inductive OpH where
  | g (hs : List Hint)
  | ix
  | ixs
  | dv
  | ss
  | sh
  | sl
  | as (v : Value)
def addrOf (A : Option Addr) : Addr := A.getD ⟨0, 0, none⟩
def byteAt (s : ByteArray) (z : Int) : Int := if h : z.toNat < s.size then ((s[z.toNat]'h).toNat : Int) else 0
def binS (op : BinOp) (t : TypeId) (x y : Operand) (a b : Value) : Sem Value := do
  eqGuard op t x y a b
  binOp op t a b
def RunsTo {α : Type} (P : Program) (s : Sem α) (v : α) : Prop := ∀ w : World, s.run P w = .ok v w
def spOp (P : Program) (fr : List (Nat × Value)) (o : Oper) : OpH → Option (Value × Prop)
  | .ix => match o.op with
    | .indexAddr t x i => match evO fr x, evO fr i, P.underlying t with
      | some (.slice A n _), some (.int _ z), some (.slice e) => match P.info? e with
        | some inf => some (.pointer (some ((addrOf A).add (z.toNat * inf.size))), A.isSome = true ∧ 0 ≤ z ∧ z < (n : Int))
        | none => none
      | _, _, _ => none
    | _ => none
  | .ixs => match o.op with
    | .index t x i => match evO fr x, evO fr i, P.underlying t with
      | some (.string s), some (.int _ z), some .string => some (.int .u8 (byteAt s z), 0 ≤ z ∧ z < (s.size : Int))
      | _, _, _ => none
    | _ => none
  | .dv => match o.op with
    | .binOp .quo _ x y _ => match evO fr x, evO fr y with
      | some (.int k a), some (.int k' b) => some (.int k (k.wrap (a.tdiv b)), k = k' ∧ b ≠ 0)
      | _, _ => none
    | .binOp .rem _ x y _ => match evO fr x, evO fr y with
      | some (.int k a), some (.int k' b) => some (.int k (a.tmod b), k = k' ∧ b ≠ 0)
      | _, _ => none
    | _ => none
  | .ss => match o.op with
    | .slice t x lo hi none => match evO fr x, P.underlying t with
      | some (.string s), some .string => match lo, hi with
        | none, some hi => match evO fr hi with
          | some (.int _ h) => some (.string (s.extract 0 h.toNat), 0 ≤ h ∧ h ≤ (s.size : Int))
          | _ => none
        | some lo, none => match evO fr lo with
          | some (.int _ l) => some (.string (s.extract l.toNat s.size), 0 ≤ l ∧ l ≤ (s.size : Int))
          | _ => none
        | some lo, some hi => match evO fr lo, evO fr hi with
          | some (.int _ l), some (.int _ h) => some (.string (s.extract l.toNat h.toNat), 0 ≤ l ∧ l ≤ h ∧ h ≤ (s.size : Int))
          | _, _ => none
        | none, none => none
      | _, _ => none
    | _ => none
  | .sh => match o.op with
    | .slice t x none (some hi) none => match evO fr x, evO fr hi, P.underlying t with
      | some (.slice A n cap), some (.int _ h), some (.slice e) => match P.info? e with
        | some inf => some (.slice A h.toNat cap, 0 ≤ h ∧ h ≤ (cap : Int))
        | none => none
      | _, _, _ => none
    | _ => none
  | .sl => match o.op with
    | .slice t x (some lo) none none => match evO fr x, evO fr lo, P.underlying t with
      | some (.slice A n cap), some (.int _ l), some (.slice e) => match P.info? e with
        | some inf => some (.slice (if cap = l.toNat then A else A.map (·.add (l.toNat * inf.size))) (n - l.toNat) (cap - l.toNat), 0 ≤ l ∧ l ≤ (n : Int))
        | none => none
      | _, _, _ => none
    | _ => none
  | .as v => match o.op with
    | .binOp op t x y _ => match evO fr x, evO fr y with
      | some a, some b => some (v, RunsTo P (binS op t x y a b) v)
      | _, _ => none
    | _ => none
  | .g _ => none
section
variable {P : Program}
theorem rho_ev {fr : List (Nat × Value)} {x : Operand} {v : Value} (h : evO fr x = some v) : rho fr x = v := by simp [rho, h]
theorem und_run {t : TypeId} {d : TypeDesc} (h : P.underlying t = some d) (w : World) : (underlying t).run P w = .ok d w := by
  unfold underlying program
  simp [Bind.bind, Sem.bind, Sem.run, h, Pure.pure]
theorem size_run {t : TypeId} {i : TypeInfo} (h : P.info? t = some i) (w : World) : (sizeOf t).run P w = .ok i.size w := by
  unfold sizeOf typeInfo program
  simp [Bind.bind, Sem.bind, Sem.run, h, Pure.pure]
theorem sp_run {fr : List (Nat × Value)} {o : Oper} {h : OpH} {v : Value} {p : Prop} (hs : spOp P fr o h = some (v, p)) (hp : p) (w : World) : (execOp (rho fr) o).run P w = .ok (.value v) w := by
  cases h with
  | g hs => cases hs
  | ix =>
    simp only [spOp] at hs
    split at hs <;> try (cases hs; done)
    rename_i t x i ho
    split at hs <;> try (cases hs; done)
    rename_i A n c k z e hx hi ht
    split at hs <;> try (cases hs; done)
    rename_i inf hinf
    simp only [Option.some.injEq, Prod.mk.injEq] at hs
    obtain ⟨rfl, rfl⟩ := hs
    unfold execOp
    simp only [ho]
    unfold Instr.indexAt
    obtain ⟨hA, hp⟩ := hp
    cases A with
    | none => cases hA
    | some ad => simp [addrOf, rho_ev hx, rho_ev hi, asIntOf, run_underlying ht, hp.1, hp.2, sizeOf, typeInfo, hinf]
  | ixs =>
    simp only [spOp] at hs
    split at hs <;> try (cases hs; done)
    rename_i t x i ho
    split at hs <;> try (cases hs; done)
    rename_i s k z hx hi ht
    simp only [Option.some.injEq, Prod.mk.injEq] at hs
    obtain ⟨rfl, rfl⟩ := hs
    unfold execOp
    simp only [ho]
    unfold Instr.index
    have hz : z.toNat < s.size := by omega
    simp [rho_ev hx, rho_ev hi, asIntOf, run_underlying ht, hp.1, hz, byteAt]
  | dv =>
    simp only [spOp] at hs
    split at hs <;> try (cases hs; done)
    all_goals
      rename_i t x y yt ho
      split at hs <;> try (cases hs; done)
      rename_i k a k' b hx hy
      simp only [Option.some.injEq, Prod.mk.injEq] at hs
      obtain ⟨rfl, rfl⟩ := hs
      obtain ⟨rfl, hb⟩ := hp
      unfold execOp
      simp only [ho]
      simp [rho_ev hx, rho_ev hy, eqGuard, binOp, Op.intDiv, hb]
  | ss =>
    simp only [spOp] at hs
    split at hs <;> try (cases hs; done)
    rename_i t x lo hi ho
    split at hs <;> try (cases hs; done)
    rename_i s hx ht
    split at hs <;> try (cases hs; done)
    · rename_i hi'
      split at hs <;> try (cases hs; done)
      rename_i k h hh
      simp only [Option.some.injEq, Prod.mk.injEq] at hs
      obtain ⟨rfl, rfl⟩ := hs
      unfold execOp
      simp only [ho]
      simp [Instr.sliceAt, Instr.slice, rho_ev hx, rho_ev hh, run_underlying ht, Instr.sliceBounds, Instr.sliceBound, asIntOf, hp.1, hp.2]
    · rename_i lo'
      split at hs <;> try (cases hs; done)
      rename_i k h hh
      simp only [Option.some.injEq, Prod.mk.injEq] at hs
      obtain ⟨rfl, rfl⟩ := hs
      unfold execOp
      simp only [ho]
      simp [Instr.sliceAt, Instr.slice, rho_ev hx, rho_ev hh, run_underlying ht, Instr.sliceBounds, Instr.sliceBound, asIntOf, hp.1, hp.2]
    · rename_i lo' hi'
      split at hs <;> try (cases hs; done)
      rename_i k l k2 h hl hh
      simp only [Option.some.injEq, Prod.mk.injEq] at hs
      obtain ⟨rfl, rfl⟩ := hs
      obtain ⟨h1, h2, h3⟩ := hp
      have h4 : 0 ≤ h := by omega
      have h5 : (h.toNat : Int) = h := by omega
      unfold execOp
      simp only [ho]
      simp [Instr.sliceAt, Instr.slice, rho_ev hx, rho_ev hh, rho_ev hl, run_underlying ht, Instr.sliceBounds, Instr.sliceBound, asIntOf, h1, h2, h3, h4, h5]
  | sh =>
    simp only [spOp] at hs
    split at hs <;> try (cases hs; done)
    rename_i t x hi ho
    split at hs <;> try (cases hs; done)
    rename_i A n cap k h e hx hh ht
    split at hs <;> try (cases hs; done)
    rename_i inf hinf
    simp only [Option.some.injEq, Prod.mk.injEq] at hs
    obtain ⟨rfl, rfl⟩ := hs
    unfold execOp
    simp only [ho]
    have hA : ∀ m : Nat, (if cap = 0 then A else A.map (fun a => a.add (0 * m))) = A := fun m => by
      split
      · rfl
      · cases A <;> simp [Addr.add]
    simp [Instr.sliceAt, Instr.slice, rho_ev hx, rho_ev hh, run_underlying ht, Instr.sliceBounds, Instr.sliceBound, asIntOf, hp.1, hp.2, sizeOf, typeInfo, hinf]
    cases A <;> simp [Addr.add]
  | sl =>
    simp only [spOp] at hs
    split at hs <;> try (cases hs; done)
    rename_i t x lo ho
    split at hs <;> try (cases hs; done)
    rename_i A n cap k l e hx hh ht
    split at hs <;> try (cases hs; done)
    rename_i inf hinf
    simp only [Option.some.injEq, Prod.mk.injEq] at hs
    obtain ⟨rfl, rfl⟩ := hs
    unfold execOp
    simp only [ho]
    simp [Instr.sliceAt, Instr.slice, rho_ev hx, rho_ev hh, run_underlying ht, Instr.sliceBounds, Instr.sliceBound, asIntOf, hp.1, hp.2, sizeOf, typeInfo, hinf]
  | as v' =>
    simp only [spOp] at hs
    split at hs <;> try (cases hs; done)
    rename_i op t x y yt ho
    split at hs <;> try (cases hs; done)
    rename_i a b hx hy
    simp only [Option.some.injEq, Prod.mk.injEq] at hs
    obtain ⟨rfl, rfl⟩ := hs
    have h1 := hp w
    unfold binS at h1
    unfold execOp
    simp only [ho, rho_ev hx, rho_ev hy]
    simp only [Sem.run_bind, Sem.run_pure] at h1 ⊢
    rw [h1]
    rfl
end
end Go.Proofs.YtdifenljfklolaaGreatDoor.Sx
