/- The engine at a region whose order is drawn: what only reads is taken first, by evaluation; what is left comes up one by one. Plain theorems over any program. -/
import Derived.Test.YtdifenljfklolaaGreatDoorSxC
import Derived.Test.YtdifenljfklolaaGreatDoorWLast
set_option linter.unusedVariables false
set_option linter.unusedSimpArgs false
namespace Go.Proofs.YtdifenljfklolaaGreatDoor.Sx
open Go Go.RowKit Go.Proofs.YtdifenljfklolaaGreatDoorW.PrintLast

def SM (base : Nat) (Hs : Snap) (kbs : List Ent) (w : World) : Prop := Holds Hs w ∧ Lies base kbs w
def PanicOk (Q : Exit → Act → World → Prop) : Prop := ∀ c a w d v, Q (.panic c) (Act.put a d v) w → Q (.panic c) a w
def opQ (P : Program) (Hs : Snap) (ops : Array Oper) (fr : List (Nat × Value)) (kbs : List Ent) (o : Oper) (h : OpH) : Option (OutQ Value) :=
  match wantG ops fr o with
  | some false => some ⟨undef, [], []⟩
  | some true => match notSel o.op, known fr o.op.operands.toList with
    | true, true => match h with
      | .g hs => match goQ P Hs (execOp (rho fr) o) kbs hs with
        | some out => match out.val with
          | .value v => some ⟨v, out.E, out.ex⟩
          | _ => none
        | none => none
      | h => match spOp P fr o h with
        | some p => some ⟨p.1, [], [p.2]⟩
        | none => none
    | _, _ => none
  | none => none
structure QOut where
  fr : List (Nat × Value)
  l : List Bool
  E : List (Nat × Nat)
  ex : List Prop
def qStep (P : Program) (Hs : Snap) (ops : Array Oper) (ds : List Nat) (kbs : List Ent) (fr : List (Nat × Value)) (l : List Bool) (i : Nat) (o : Oper) (h : OpH) : Option (OutQ Value) :=
  match takeB .any ops ds l.toArray (l.set i true).toArray i with
  | true => opQ P Hs ops fr kbs o h
  | false => match anyB .any ops l.toArray (l.set i true).toArray i with
    | true => opQ P (fun _ => none) ops fr [] o h
    | false => none
def qGo (P : Program) (Hs : Snap) (N : Nat) (ops : Array Oper) (ds : List Nat) (kbs : List Ent) : List (Nat × OpH) → List (Nat × Value) → List Bool → Option QOut
  | [], fr, l => some ⟨fr, l, [], []⟩
  | q :: r, fr, l => match ops[q.1]? with
    | some o => match dstOk N o.dst, qStep P Hs ops ds kbs fr l q.1 o q.2 with
      | true, some out => match qGo P Hs N ops ds kbs r (putF fr o.dst out.val) (l.set q.1 true) with
        | some s => some ⟨s.fr, s.l, out.E ++ s.E, out.ex ++ s.ex⟩
        | none => none
      | _, _ => none
    | none => none
section
variable {P : Program} {N : Nat} {w0 : World} {H0 H Hs : Snap} {kx kbs : List Ent} {fr : List (Nat × Value)} {kb : List Ent} {ops : Array Oper} {Q : Exit → Act → World → Prop} {ds : List Nat}
theorem opQ_yields {o : Oper} {h : OpH} {out : OutQ Value} {a : Act} {base : Nat} (hs : Slots N fr a) (he : opQ P Hs ops fr kbs o h = some out) (hE : allE out.E) (hx : allP out.ex) : YieldsIf P ops (SM base Hs kbs) o out.val a := by
  unfold opQ at he
  split at he <;> try (cases he; done)
  · rename_i hw
    injection he with he
    subst he
    exact .inr ⟨wantG_spec hw hs, rfl⟩
  · rename_i hw
    refine .inl ⟨wantG_spec hw hs, fun w hS => ?_⟩
    split at he <;> try (cases he; done)
    rename_i hsel hk
    rw [hs.exec (notSel_spec hsel) hk]
    split at he
    · split at he <;> try (cases he; done)
      rename_i out' hgo
      split at he <;> try (cases he; done)
      rename_i v hv
      injection he with he
      subst he
      rw [goQ_run _ _ _ _ hgo hE hx w hS.1 hS.2, hv]
    · split at he <;> try (cases he; done)
      rename_i p hp
      injection he with he
      subst he
      exact sp_run (by rw [hp]) hx.1 w
abbrev OkD (P : Program) (N : Nat) (w0 : World) (H0 : Snap) (kx : List Ent) (ops : Array Oper) (Q : Exit → Act → World → Prop) (ds : List Nat) (Hs : Snap) (kbs : List Ent) (fuel : Nat) (l : List Bool) (H : Snap) (fr : List (Nat × Value)) (kb : List Ent) : Prop :=
  Ok N w0 H0 kx H fr kb (fun a w => SM w0.heap.size Hs kbs w → wpAnyLast P .any ops Q (SM w0.heap.size Hs kbs) ds fuel l.toArray a w)
theorem Ok.quiet (hQ : PanicOk Q) : ∀ (qs : List (Nat × OpH)) (fr : List (Nat × Value)) (l : List Bool) (s : QOut) (fuel : Nat), qGo P Hs N ops ds kbs qs fr l = some s → allE s.E → allP s.ex →
    OkD P N w0 H0 kx ops Q ds Hs kbs fuel s.l H s.fr kb → OkD P N w0 H0 kx ops Q ds Hs kbs (fuel + qs.length) l H fr kb
  | [], fr, l, s, fuel, he, _, _, h => by
    simp only [qGo, Option.some.injEq] at he
    subst he
    exact h
  | q :: r, fr, l, s, fuel, he, hE, hx, h => by
    simp only [qGo] at he
    split at he <;> try (cases he; done)
    rename_i o ho
    split at he <;> try (cases he; done)
    rename_i out hd hop
    split at he <;> try (cases he; done)
    rename_i s2 h2
    injection he with he
    subst he
    intro a w hs hm hS
    unfold qStep at hop
    split at hop
    · rename_i ht
      have hy := opQ_yields (base := w0.heap.size) hs hop (allE_append hE).1 (allP_append hx).1
      exact take_ (l.set q.1 true).toArray ho rfl ht (fun c a w h => hQ c a w _ _ h) hy hS rfl (Ok.quiet hQ r _ _ s2 fuel h2 (allE_append hE).2 (allP_append hx).2 h _ w (hs.put (dstOk_spec hd) _) hm hS)
    · split at hop
      · rename_i ht
        have hy := opQ_yields (base := w0.heap.size) hs hop (allE_append hE).1 (allP_append hx).1
        have hy2 : Yields P ops o out.val a := hy.imp (fun ⟨h1, h2⟩ => ⟨h1, fun w => h2 w ⟨fun _ _ h => (by cases h), fun _ h => by cases h⟩⟩) id
        exact pure_ (l.set q.1 true).toArray ho rfl ht (fun c a w h => hQ c a w _ _ h) hy2 rfl (Ok.quiet hQ r _ _ s2 fuel h2 (allE_append hE).2 (allP_append hx).2 h _ w (hs.put (dstOk_spec hd) _) hm hS)
      · cases hop
theorem Ok.take {qs : List (Nat × OpH)} {l l' : List Bool} {fuel fuel' : Nat} (fr' : List (Nat × Value)) (L : List Nat) (ex : List Prop) (keep : List Nat) (hQ : PanicOk Q)
    (h : (match qGo P Hs N ops ds kbs qs fr l with | some s => some (⟨restrF s.fr keep, s.l, s.E, s.ex⟩ : QOut) | none => none) = some ⟨fr', l', dup L, ex⟩) (hf : fuel' + qs.length = fuel) (hx : allP ex)
    (hk : OkD P N w0 H0 kx ops Q ds Hs kbs fuel' l' H fr' kb) : OkD P N w0 H0 kx ops Q ds Hs kbs fuel l H fr kb := by
  split at h <;> try (cases h; done)
  rename_i s hq
  injection h with h
  injection h with e1 e2 e3 e4
  rw [← hf]
  refine Ok.quiet hQ qs fr l s fuel' hq (by rw [e3]; exact allE_dup _) (by rw [e4]; exact hx) fun a w hs hm hS => ?_
  rw [e2]
  exact hk a w (by rw [← e1]; exact hs.sub fun p hp => restrF_mem hp) hm hS
def sel (kb : List Ent) : List Nat → Option (List Ent)
  | [] => some []
  | i :: r => match kb[i]?, sel kb r with
    | some e, some l => some (e :: l)
    | _, _ => none
theorem sel_mem : ∀ {l : List Nat} {kbs : List Ent}, sel kb l = some kbs → ∀ e ∈ kbs, e ∈ kb
  | [], kbs, h, e, he => by
    injection h with h
    subst h
    cases he
  | i :: r, kbs, h, e, he => by
    unfold sel at h
    split at h <;> try (cases h; done)
    rename_i x l hx hl
    injection h with h
    subst h
    rcases List.mem_cons.1 he with rfl | he
    · exact List.mem_of_getElem? hx
    · exact sel_mem hl e he
theorem Mem.sm {w : World} (h : Mem w0 H0 H (kb ++ kx) w) (hle : SLe Hs H) {idx : List Nat} (hs : sel kb idx = some kbs) : SM w0.heap.size Hs kbs w :=
  ⟨fun k o hk => h.holds k o (hle k o hk), fun e he => (h.ents e (List.mem_append_left kx (sel_mem hs e he))).1⟩
theorem Mem.drew {w : World} {k : List Ent} (h : Mem w0 H0 H k w) : Mem w0 H0 H k w.drew := h.grown ⟨rfl, rfl, rfl, Nat.le_refl _, fun _ _ _ => rfl⟩
/-- Into the region: Hs, kbs is what its loads read. -/
theorem Ok.start {id n : Nat} {l : List Bool} {idx : List Nat} (ds : List Nat) (kbs : List Ent) (hm : P.follows .mixedOrders = true) (hn : ops.size = n) (hl : List.replicate n false = l) (hs : sel kb idx = some kbs)
    (h : OkD P N w0 H0 kx ops Q ds H kbs n l H fr kb) : OkC P N w0 H0 kx (.region id ops true) Q H fr kb := fun a w hs2 hm2 => by
  have hS := hm2.drew.sm (SLe.refl H) hs
  exact start_ (S := SM w0.heap.size H kbs) (ds := ds) l.toArray hm hn (by rw [← hl]; simp) hS (fun h1 => h a w.drew hs2 hm2.drew h1)
theorem Ok.one {i fuel fuel' : Nat} {l l' : List Bool} (hr : readyB .any ops l.toArray l'.toArray i = true) (hd : ds.contains i = false) (hf : fuel' + 1 = fuel)
    (h : Eff P N w0 H0 kx ops Q ops[i]? H fr kb (fun a w => SM w0.heap.size Hs kbs w ∧ wpAnyLast P .any ops Q (SM w0.heap.size Hs kbs) ds fuel' l'.toArray a w)) : OkD P N w0 H0 kx ops Q ds Hs kbs fuel l H fr kb := fun a w hs hm _ => by
  obtain ⟨o, ho, h1⟩ := h
  obtain ⟨h2, h3⟩ := h1 a w hs hm
  rw [← hf]
  refine one_ l'.toArray ho rfl hr (by simpa using hd) fun K hK => ?_
  rw [if_pos h2]
  exact h3 K fun a w hg => hK.out a w hg.1 (fun _ => hg.2)
theorem Ok.withS {fuel : Nat} {l : List Bool} {idx : List Nat} (hle : SLe Hs H) (hs : sel kb idx = some kbs) (h : OkD P N w0 H0 kx ops Q ds Hs kbs fuel l H fr kb) :
    Ok N w0 H0 kx H fr kb (fun a w => SM w0.heap.size Hs kbs w ∧ wpAnyLast P .any ops Q (SM w0.heap.size Hs kbs) ds fuel l.toArray a w) := fun a w hs2 hm => by
  have hS := hm.sm hle hs
  exact ⟨hS, h a w hs2 hm hS⟩
theorem Ok.done {fuel : Nat} {l : List Bool} (hr : (Region.ready .any ops l.toArray == []) = true) (h : OkQ N w0 H0 kx .normal Q H fr kb) : OkD P N w0 H0 kx ops Q ds Hs kbs fuel l H fr kb := fun a w hs hm _ => done_ hr (h a w hs hm)
/-- Behind an operation of ds: nothing is read any more. -/
abbrev OkE (P : Program) (N : Nat) (w0 : World) (H0 : Snap) (kx : List Ent) (ops : Array Oper) (Q : Exit → Act → World → Prop) (ds : List Nat) (Hs : Snap) (kbs : List Ent) (fuel : Nat) (l : List Bool) (H : Snap) (fr : List (Nat × Value)) (kb : List Ent) : Prop :=
  Ok N w0 H0 kx H fr kb (fun a w => wpAnyLast P .any ops Q (SM w0.heap.size Hs kbs) ds fuel l.toArray a w)
theorem Ok.last {i fuel fuel' : Nat} {l l' : List Bool} (hr : readyB .any ops l.toArray l'.toArray i = true) (hd : ds.contains i = true) (hf : fuel' + 1 = fuel)
    (h : Eff P N w0 H0 kx ops Q ops[i]? H fr kb (fun a w => wpAnyLast P .any ops Q (SM w0.heap.size Hs kbs) ds fuel' l'.toArray a w)) : OkE P N w0 H0 kx ops Q ds Hs kbs fuel l H fr kb := fun a w hs hm => by
  obtain ⟨o, ho, h1⟩ := h
  obtain ⟨h2, h3⟩ := h1 a w hs hm
  rw [← hf]
  refine last_ l'.toArray ho rfl hr (by simpa using hd) fun K hK => ?_
  rw [if_pos h2]
  exact h3 K fun a w hg => hK.out a w hg
theorem Ok.toE {fuel : Nat} {l : List Bool} (h : OkE P N w0 H0 kx ops Q ds Hs kbs fuel l H fr kb) : OkD P N w0 H0 kx ops Q ds Hs kbs fuel l H fr kb := fun a w hs hm _ => h a w hs hm
theorem Ok.doneE {fuel : Nat} {l : List Bool} (hr : (Region.ready .any ops l.toArray == []) = true) (h : OkQ N w0 H0 kx .normal Q H fr kb) : OkE P N w0 H0 kx ops Q ds Hs kbs fuel l H fr kb := fun a w hs hm => done_ hr (h a w hs hm)
theorem Ok.two {i j fuel fuel' : Nat} {l li lj : List Bool} (hr : (Region.ready .any ops l.toArray == [i, j] && l.toArray.setIfInBounds i true == li.toArray && l.toArray.setIfInBounds j true == lj.toArray) = true) (hdi : ds.contains i = false) (hdj : ds.contains j = false) (hf : fuel' + 1 = fuel)
    (h1 : Eff P N w0 H0 kx ops Q ops[i]? H fr kb (fun a w => SM w0.heap.size Hs kbs w ∧ wpAnyLast P .any ops Q (SM w0.heap.size Hs kbs) ds fuel' li.toArray a w))
    (h2 : Eff P N w0 H0 kx ops Q ops[j]? H fr kb (fun a w => SM w0.heap.size Hs kbs w ∧ wpAnyLast P .any ops Q (SM w0.heap.size Hs kbs) ds fuel' lj.toArray a w)) : OkD P N w0 H0 kx ops Q ds Hs kbs fuel l H fr kb := fun a w hs hm _ => by
  obtain ⟨oi, hoi, h1⟩ := h1
  obtain ⟨oj, hoj, h2⟩ := h2
  obtain ⟨a2, a3⟩ := h1 a w hs hm
  obtain ⟨b2, b3⟩ := h2 a w hs hm
  rw [← hf]
  refine two_ li.toArray lj.toArray hoi hoj rfl rfl hr (by simpa using hdi) (by simpa using hdj) (fun K hK => ?_) (fun K hK => ?_)
  · rw [if_pos a2]
    exact a3 K fun a w hg => hK.out a w hg.1 (fun _ => hg.2)
  · rw [if_pos b2]
    exact b3 K fun a w hg => hK.out a w hg.1 (fun _ => hg.2)
theorem Ok.three {i j k fuel fuel' : Nat} {l li lj lk : List Bool} (hr : (Region.ready .any ops l.toArray == [i, j, k] && l.toArray.setIfInBounds i true == li.toArray && l.toArray.setIfInBounds j true == lj.toArray && l.toArray.setIfInBounds k true == lk.toArray) = true) (hdi : ds.contains i = false) (hdj : ds.contains j = false) (hdk : ds.contains k = false) (hf : fuel' + 1 = fuel)
    (h1 : Eff P N w0 H0 kx ops Q ops[i]? H fr kb (fun a w => SM w0.heap.size Hs kbs w ∧ wpAnyLast P .any ops Q (SM w0.heap.size Hs kbs) ds fuel' li.toArray a w))
    (h2 : Eff P N w0 H0 kx ops Q ops[j]? H fr kb (fun a w => SM w0.heap.size Hs kbs w ∧ wpAnyLast P .any ops Q (SM w0.heap.size Hs kbs) ds fuel' lj.toArray a w))
    (h3 : Eff P N w0 H0 kx ops Q ops[k]? H fr kb (fun a w => SM w0.heap.size Hs kbs w ∧ wpAnyLast P .any ops Q (SM w0.heap.size Hs kbs) ds fuel' lk.toArray a w)) : OkD P N w0 H0 kx ops Q ds Hs kbs fuel l H fr kb := fun a w hs hm _ => by
  obtain ⟨oi, hoi, h1⟩ := h1
  obtain ⟨oj, hoj, h2⟩ := h2
  obtain ⟨ok, hok, h3⟩ := h3
  obtain ⟨a2, a3⟩ := h1 a w hs hm
  obtain ⟨b2, b3⟩ := h2 a w hs hm
  obtain ⟨c2, c3⟩ := h3 a w hs hm
  rw [← hf]
  refine three_ li.toArray lj.toArray lk.toArray hoi hoj hok rfl rfl rfl hr (by simpa using hdi) (by simpa using hdj) (by simpa using hdk) (fun K hK => ?_) (fun K hK => ?_) (fun K hK => ?_)
  · rw [if_pos a2]
    exact a3 K fun a w hg => hK.out a w hg.1 (fun _ => hg.2)
  · rw [if_pos b2]
    exact b3 K fun a w hg => hK.out a w hg.1 (fun _ => hg.2)
  · rw [if_pos c2]
    exact c3 K fun a w hg => hK.out a w hg.1 (fun _ => hg.2)
/-- What follows where the orders meet, shown once. -/
theorem Ok.join {ι : Type} {fuel : Nat} {l : List Bool} (Fr : ι → List (Nat × Value)) (Kb : ι → List Ent) (F : Snap → ι → Prop) (fuel' : Nat) (l' : List Bool) (hk : ∀ H' y, SLe H H' → F H' y → OkD P N w0 H0 kx ops Q ds Hs kbs fuel' l' H' (Fr y) (Kb y))
    (h : (∀ H' y, SLe H H' → F H' y → OkD P N w0 H0 kx ops Q ds Hs kbs fuel' l' H' (Fr y) (Kb y)) → OkD P N w0 H0 kx ops Q ds Hs kbs fuel l H fr kb) : OkD P N w0 H0 kx ops Q ds Hs kbs fuel l H fr kb := h hk
end
end Go.Proofs.YtdifenljfklolaaGreatDoor.Sx
