/- The engine's judgements: 'in every state that fits this frame and this memory': regions, tests, blocks, loops, calls, returns; a call's contract. Plain theorems over any program. -/
import Derived.Test.YtdifenljfklolaaGreatDoorSxB
import Derived.LoopN
set_option linter.unusedVariables false
set_option linter.unusedSimpArgs false
namespace Go.Proofs.YtdifenljfklolaaGreatDoor.Sx
open Go Go.RowKit

def Ok (N : Nat) (w0 : World) (H0 : Snap) (kx : List Ent) (H : Snap) (fr : List (Nat × Value)) (kb : List Ent) (G : Act → World → Prop) : Prop := ∀ a w, Slots N fr a → Mem w0 H0 H (kb ++ kx) w → G a w
abbrev OkC (P : Program) (N : Nat) (w0 : World) (H0 : Snap) (kx : List Ent) (c : Code) (Q : Exit → Act → World → Prop) (H : Snap) (fr : List (Nat × Value)) (kb : List Ent) : Prop := Ok N w0 H0 kx H fr kb (fun a w => c.wp P Q a w)
abbrev OkQ (N : Nat) (w0 : World) (H0 : Snap) (kx : List Ent) (e : Exit) (Q : Exit → Act → World → Prop) (H : Snap) (fr : List (Nat × Value)) (kb : List Ent) : Prop := Ok N w0 H0 kx H fr kb (fun a w => Q e a w)
abbrev OkI (P : Program) (N : Nat) (w0 : World) (H0 : Snap) (kx : List Ent) (ops : Array Oper) (Q : Exit → Act → World → Prop) (i : Nat) (H : Snap) (fr : List (Nat × Value)) (kb : List Ent) : Prop := Ok N w0 H0 kx H fr kb (fun a w => wpList P ops Q (ops.toList.drop i) a w)

/-! ### A piece of a region -/
structure SOut where
  fr : List (Nat × Value)
  kb : List Ent
  nb : Nat
  E : List (Nat × Nat)
  ex : List Prop
structure Fin where
  fr : List (Nat × Value)
  kb : List Ent
  E : List (Nat × Nat)
  ex : List Prop
def wantG (ops : Array Oper) (fr : List (Nat × Value)) (o : Oper) : Option Bool :=
  match o.guard with
  | none => some true
  | some (j, want) => match ops.toList[j]? with
    | some oj => match oj.dst with
      | some d => match lk fr d with
        | some (.bool b) => some (b == want)
        | some (.tuple _) => some false
        | _ => none
      | none => none
    | none => none
def dstOk (N : Nat) : Option Tmp → Bool
  | none => true
  | some d => Nat.ble (d + 1) N
def notSel : Op → Bool
  | .select _ _ => false
  | _ => true
def opGo (P : Program) (H : Snap) (N : Nat) (ops : Array Oper) (fr : List (Nat × Value)) (kb : List Ent) (nb : Nat) (o : Oper) (h : OpH) : Option SOut :=
  match wantG ops fr o, dstOk N o.dst with
  | some false, true => some ⟨putF fr o.dst undef, kb, nb, [], []⟩
  | some true, true => match notSel o.op, known fr o.op.operands.toList with
    | true, true => match h with
      | .g hs => match go P H (execOp (rho fr) o) kb nb hs with
        | some out => match out.val with
          | .value v => some ⟨putF fr o.dst v, out.kb, out.nb, out.E, out.ex⟩
          | .skip => some ⟨putF fr o.dst undef, out.kb, out.nb, out.E, out.ex⟩
          | _ => none
        | none => none
      | h => match spOp P fr o h with
        | some p => some ⟨putF fr o.dst p.1, kb, nb, [], [p.2]⟩
        | none => none
    | _, _ => none
  | _, _ => none
def segGo (P : Program) (H : Snap) (N : Nat) (ops : Array Oper) : List Oper → List (Nat × Value) → List Ent → Nat → List OpH → Option SOut
  | _, fr, kb, nb, [] => some ⟨fr, kb, nb, [], []⟩
  | o :: r, fr, kb, nb, h :: hs => match opGo P H N ops fr kb nb o h with
    | some s => match segGo P H N ops r s.fr s.kb s.nb hs with
      | some s2 => some ⟨s2.fr, s2.kb, s2.nb, s.E ++ s2.E, s.ex ++ s2.ex⟩
      | none => none
    | none => none
  | [], _, _, _, _ :: _ => none
def restrF (fr : List (Nat × Value)) : List Nat → List (Nat × Value)
  | [] => []
  | k :: r => match lk fr k with
    | some v => (k, v) :: restrF fr r
    | none => restrF fr r
def segFin (P : Program) (H : Snap) (N : Nat) (ops : Array Oper) (i : Nat) (fr : List (Nat × Value)) (kb : List Ent) (nb : Nat) (hs : List OpH) (keep : List Nat) : Option Fin :=
  match segGo P H N ops (ops.toList.drop i) fr kb nb hs with
  | some s => some ⟨restrF s.fr keep, s.kb, s.E, s.ex⟩
  | none => none
theorem restrF_mem {fr : List (Nat × Value)} : ∀ {l : List Nat} {p : Nat × Value}, p ∈ restrF fr l → p ∈ fr
  | [], _, h => by cases h
  | k :: r, p, h => by
    unfold restrF at h
    split at h
    · rename_i v hv
      rcases List.mem_cons.1 h with rfl | h
      · exact lk_mem hv
      · exact restrF_mem h
    · exact restrF_mem h
theorem Slots.sub {N : Nat} {fr fr' : List (Nat × Value)} {a : Act} (h : Slots N fr a) (hs : ∀ p ∈ fr', p ∈ fr) : Slots N fr' a := ⟨h.1, h.2.1, fun p hp => h.2.2 p (hs p hp)⟩
theorem allP_append : ∀ {a b : List Prop}, allP (a ++ b) → allP a ∧ allP b
  | [], _, h => ⟨trivial, h⟩
  | p :: r, b, h => ⟨⟨h.1, (allP_append h.2).1⟩, (allP_append h.2).2⟩

section
variable {P : Program} {N : Nat} {w0 : World} {H0 H : Snap} {kx : List Ent} {fr : List (Nat × Value)} {kb : List Ent} {ops : Array Oper} {Q : Exit → Act → World → Prop}
theorem wantG_spec {a : Act} {o : Oper} {b : Bool} (h : wantG ops fr o = some b) (hs : Slots N fr a) : Region.wanted o (yielded ops a.tmps) = b := by
  unfold wantG at h
  unfold Region.wanted
  split at h
  · rename_i hg
    rw [hg]
    injection h
  · rename_i j want hg
    rw [hg]
    split at h <;> try (cases h; done)
    rename_i oj hj
    split at h <;> try (cases h; done)
    rename_i d hd
    split at h <;> try (cases h; done)
    · rename_i b' hb
      injection h with h
      have h1 := hs.lk hb
      have hj' : ops[j]? = some oj := by rw [← Array.getElem?_toList]; exact hj
      simp only [yielded, hj', hd, Option.bind_some, h1]
      subst h
      cases b' <;> cases want <;> rfl
    · rename_i b' hb
      injection h with h
      have h1 := hs.lk hb
      have hj' : ops[j]? = some oj := by rw [← Array.getElem?_toList]; exact hj
      simp only [yielded, hj', hd, Option.bind_some, h1]
      subst h
      cases want <;> rfl
theorem dstOk_spec {d : Option Tmp} (h : dstOk N d = true) : ∀ t, d = some t → t < N := by
  intro t ht
  subst ht
  exact Nat.le_of_ble_eq_true h
theorem notSel_spec {o : Oper} (h : notSel o.op = true) : ∀ cs b, o.op ≠ .select cs b := by
  intro cs b e
  rw [e] at h
  cases h
theorem wp_value {a : Act} {w w' : World} {o : Oper} {v : Value} {K : Act → World → Prop} (h : (execOp a.eval o).run P w = .ok (.value v) w') (hk : K (a.put o.dst v) w') : o.wp P a w K Q := by
  unfold Oper.wp
  rw [h]
  exact hk
theorem wp_skip_ {a : Act} {w w' : World} {o : Oper} {K : Act → World → Prop} (h : (execOp a.eval o).run P w = .ok .skip w') (hk : K (a.put o.dst undef) w') : o.wp P a w K Q := by
  unfold Oper.wp
  rw [h]
  exact hk
/-- One operation. -/
theorem opGo_run {o : Oper} {h : OpH} {s : SOut} {a : Act} {w : World} (hs : Slots N fr a) (hm : Mem w0 H0 H (kb ++ kx) w) (he : opGo P H N ops fr kb w.heap.size o h = some s) (hL : allE s.E) (hx : allP s.ex) :
    (Region.wanted o (yielded ops a.tmps) = false ∧ Slots N s.fr (a.put o.dst undef) ∧ Mem w0 H0 H (s.kb ++ kx) w ∧ s.nb = w.heap.size) ∨
    (Region.wanted o (yielded ops a.tmps) = true ∧ ∃ a' w', Slots N s.fr a' ∧ Mem w0 H0 H (s.kb ++ kx) w' ∧ s.nb = w'.heap.size ∧ ∀ (K : Act → World → Prop) Q, K a' w' → o.wp P a w K Q) := by
  unfold opGo at he
  split at he <;> try (cases he; done)
  · rename_i hw hd
    injection he with he
    subst he
    exact .inl ⟨wantG_spec hw hs, hs.put (dstOk_spec hd) _, hm, rfl⟩
  · rename_i hw hd
    refine .inr ⟨wantG_spec hw hs, ?_⟩
    split at he <;> try (cases he; done)
    rename_i hsel hk
    have hex := hs.exec (notSel_spec hsel) hk
    split at he
    · rename_i hs'
      split at he <;> try (cases he; done)
      rename_i out hgo
      split at he <;> try (cases he; done)
      · rename_i v hv
        injection he with he
        subst he
        obtain ⟨w', h1, h2, h3⟩ := go_run _ _ _ _ _ hgo hL hx w hm rfl
        refine ⟨a.put o.dst v, w', hs.put (dstOk_spec hd) _, h2, h3, fun K Q hK => wp_value (by rw [hex, h1, hv]) hK⟩
      · rename_i hv
        injection he with he
        subst he
        obtain ⟨w', h1, h2, h3⟩ := go_run _ _ _ _ _ hgo hL hx w hm rfl
        refine ⟨a.put o.dst undef, w', hs.put (dstOk_spec hd) _, h2, h3, fun K Q hK => wp_skip_ (by rw [hex, h1, hv]) hK⟩
    · rename_i h' hng
      split at he <;> try (cases he; done)
      rename_i p hp
      injection he with he
      subst he
      exact ⟨a.put o.dst p.1, w, hs.put (dstOk_spec hd) _, hm, rfl, fun K Q hK => wp_value (by rw [hex]; exact sp_run (by rw [hp]) hx.1 w) hK⟩
theorem seg_run : ∀ (hs : List OpH) (l : List Oper) (fr : List (Nat × Value)) (kb : List Ent) (s : SOut) (a : Act) (w : World), Slots N fr a → Mem w0 H0 H (kb ++ kx) w → segGo P H N ops l fr kb w.heap.size hs = some s → allE s.E → allP s.ex →
    (∀ a' w', Slots N s.fr a' → Mem w0 H0 H (s.kb ++ kx) w' → wpList P ops Q (l.drop hs.length) a' w') → wpList P ops Q l a w
  | [], l, fr, kb, s, a, w, hs, hm, he, _, _, hk => by
    have he2 : s = ⟨fr, kb, w.heap.size, [], []⟩ := by
      cases l <;> (simp only [segGo, Option.some.injEq] at he; exact he.symm)
    subst he2
    simpa using hk a w hs hm
  | h :: r, [], fr, kb, s, a, w, _, _, he, _, _, _ => by simp [segGo] at he
  | h :: r, o :: l, fr, kb, s, a, w, hs, hm, he, hL, hx, hk => by
    simp only [segGo] at he
    split at he <;> try (cases he; done)
    rename_i s1 h1
    split at he <;> try (cases he; done)
    rename_i s2 h2
    injection he with he
    subst he
    have hLs := allE_append hL
    have hxs := allP_append hx
    rcases opGo_run hs hm h1 hLs.1 hxs.1 with ⟨hw, a1, a2, a3⟩ | ⟨hw, a', w', a1, a2, a3, a4⟩
    · unfold wpList
      rw [if_neg (by rw [hw]; simp)]
      rw [a3] at h2
      exact seg_run r l _ _ s2 _ w a1 a2 h2 hLs.2 hxs.2 (by simpa using hk)
    · unfold wpList
      rw [if_pos hw]
      refine .inl (a4 _ _ ?_)
      rw [a3] at h2
      exact seg_run r l _ _ s2 _ w' a1 a2 h2 hLs.2 hxs.2 (by simpa using hk)

theorem Ok.seg {i j : Nat} (fr' : Nat → List (Nat × Value)) (kb' : Nat → List Ent) (L : Nat → List Nat) (ex : Nat → List Prop) (hs : List OpH) (keep : List Nat) (hj : i + hs.length = j)
    (h : ∀ b, segFin P H N ops i fr kb b hs keep = some ⟨fr' b, kb' b, dup (L b), ex b⟩) (hx : ∀ b, allP (ex b)) (hk : ∀ b, OkI P N w0 H0 kx ops Q j H (fr' b) (kb' b)) : OkI P N w0 H0 kx ops Q i H fr kb := by
  intro a w hs1 hm
  have h1 := h w.heap.size
  unfold segFin at h1
  split at h1 <;> try (cases h1; done)
  rename_i s hseg
  injection h1 with h1
  injection h1 with e1 e2 e3 e4
  refine seg_run hs _ _ _ s a w hs1 hm hseg (by rw [e3]; exact allE_dup _) (by rw [e4]; exact hx _) fun a' w' a1 a2 => ?_
  have h2 := hk w.heap.size a' w' (by rw [← e1]; exact a1.sub fun p hp => restrF_mem hp) (by rw [← e2]; exact a2)
  rw [List.drop_drop, hj]
  exact h2
theorem Ok.segEnd {i : Nat} (he : Nat.ble ops.size i = true) (h : OkQ N w0 H0 kx .normal Q H fr kb) : OkI P N w0 H0 kx ops Q i H fr kb := by
  intro a w hs hm
  have h1 : ops.toList.drop i = [] := List.drop_eq_nil_of_le (by simpa using Nat.le_of_ble_eq_true he)
  show wpList P ops Q (ops.toList.drop i) a w
  rw [h1]
  exact h a w hs hm
theorem Ok.reg {id : Nat} (h : OkI P N w0 H0 kx ops Q 0 H fr kb) : OkC P N w0 H0 kx (.region id ops false) Q H fr kb := fun a w hs hm => wp_region_list (by simpa using h a w hs hm)
theorem Ok.seq {x y : Code} (h : OkC P N w0 H0 kx x (Exit.then (fun a w => y.wp P Q a w) Q) H fr kb) : OkC P N w0 H0 kx (.seq x y) Q H fr kb := fun a w hs hm => wp_seq (h a w hs hm)
theorem Ok.blk {id : Nat} {c : Code} (h : OkC P N w0 H0 kx c (Exit.inBlock id Q) H fr kb) : OkC P N w0 H0 kx (.block id c) Q H fr kb := fun a w hs hm => wp_block (h a w hs hm)
theorem Ok.exit_ {id : Nat} (h : OkQ N w0 H0 kx (.exit id) Q H fr kb) : OkC P N w0 H0 kx (.exit id) Q H fr kb := fun a w hs hm => wp_exit (h a w hs hm)
theorem Ok.skip_ (h : OkQ N w0 H0 kx .normal Q H fr kb) : OkC P N w0 H0 kx .skip Q H fr kb := fun a w hs hm => wp_skip (h a w hs hm)
theorem Ok.ret_ (h : OkQ N w0 H0 kx .ret Q H fr kb) : OkC P N w0 H0 kx .ret Q H fr kb := fun a w hs hm => wp_ret (h a w hs hm)
theorem Ok.cond {c : Operand} {x y : Code} (b : Bool) (hc : evO fr c = some (.bool b)) (ht : b = true → OkC P N w0 H0 kx x Q H fr kb) (hf : b = false → OkC P N w0 H0 kx y Q H fr kb) : OkC P N w0 H0 kx (.cond c x y) Q H fr kb :=
  fun a w hs hm => wp_cond_split (hs.ev hc) (fun e => ht e a w hs hm) (fun e => hf e a w hs hm)
theorem Ok.condT {c : Operand} {x y : Code} (hc : evO fr c = some (.bool true)) (ht : OkC P N w0 H0 kx x Q H fr kb) : OkC P N w0 H0 kx (.cond c x y) Q H fr kb := fun a w hs hm => wp_cond_true (hs.ev hc) (ht a w hs hm)
theorem Ok.condF {c : Operand} {x y : Code} (hc : evO fr c = some (.bool false)) (hf : OkC P N w0 H0 kx y Q H fr kb) : OkC P N w0 H0 kx (.cond c x y) Q H fr kb := fun a w hs hm => wp_cond_false (hs.ev hc) (hf a w hs hm)
theorem Ok.thenN {K : Act → World → Prop} (h : Ok N w0 H0 kx H fr kb K) : OkQ N w0 H0 kx .normal (Exit.then K Q) H fr kb := h
theorem Ok.thenE {K : Act → World → Prop} {id : Nat} (h : OkQ N w0 H0 kx (.exit id) Q H fr kb) : OkQ N w0 H0 kx (.exit id) (Exit.then K Q) H fr kb := h
theorem Ok.thenR {K : Act → World → Prop} (h : OkQ N w0 H0 kx .ret Q H fr kb) : OkQ N w0 H0 kx .ret (Exit.then K Q) H fr kb := h
theorem Ok.blkN {id : Nat} (h : OkQ N w0 H0 kx .normal Q H fr kb) : OkQ N w0 H0 kx .normal (Exit.inBlock id Q) H fr kb := h
theorem Ok.blkR {id : Nat} (h : OkQ N w0 H0 kx .ret Q H fr kb) : OkQ N w0 H0 kx .ret (Exit.inBlock id Q) H fr kb := h
theorem Ok.blkE {id : Nat} (h : OkQ N w0 H0 kx .normal Q H fr kb) : OkQ N w0 H0 kx (.exit id) (Exit.inBlock id Q) H fr kb := fun a w hs hm => by
  show Exit.inBlock id Q (.exit id) a w
  simp only [Exit.inBlock, if_true]
  exact h a w hs hm
theorem Ok.blkM {id id' : Nat} (hne : Nat.beq id' id = false) (h : OkQ N w0 H0 kx (.exit id') Q H fr kb) : OkQ N w0 H0 kx (.exit id') (Exit.inBlock id Q) H fr kb := fun a w hs hm => by
  show Exit.inBlock id Q (.exit id') a w
  simp only [Exit.inBlock, Nat.ne_of_beq_eq_false hne, if_false]
  exact h a w hs hm
theorem Ok.mono {G G' : Act → World → Prop} (h : Ok N w0 H0 kx H fr kb G) (hg : ∀ a w, G a w → G' a w) : Ok N w0 H0 kx H fr kb G' := fun a w hs hm => hg a w (h a w hs hm)

/-! ### A loop, by a relation over frame and memory with a number that goes down -/
theorem wp_loop_ex {c : Code} {a : Act} {w : World} (T : Nat → Act → World → Prop) (m0 : Nat) (h0 : T m0 a w)
    (round : ∀ m a w, T m a w → c.wp P (Exit.then (fun a' w' => ∃ m', m' < m ∧ T m' a' w') Q) a w) : (Code.loop c).wp P Q a w := by
  intro b k cs
  have key : ∀ n a w, T n a w → ∃ e a' w', Q e a' w' ∧ Arrives P (lone (b.at a (.code c :: .inLoop c :: k)) cs w) b k cs e a' w' := by
    intro n
    induction n using Nat.strongRecOn with
    | _ n ih =>
      intro a w hT
      obtain ⟨e, a₁, w₁, hq, harr⟩ := round n a w hT b (.inLoop c :: k) cs
      cases e with
      | normal =>
        obtain ⟨m', hlt, hT'⟩ := hq
        obtain ⟨e₂, a₂, w₂, hq₂, harr₂⟩ := ih m' hlt a₁ w₁ hT'
        exact ⟨e₂, a₂, w₂, hq₂, .of_steps (Steps.trans harr (.one step_inLoop)) harr₂⟩
      | exit id => exact ⟨_, a₁, w₁, hq, .pass (x := .inLoop c) rfl (fun _ _ => .inl (by simp)) harr⟩
      | goto l => exact ⟨_, a₁, w₁, hq, .pass (x := .inLoop c) rfl (fun _ _ => .inl (by simp)) harr⟩
      | ret => exact ⟨_, a₁, w₁, hq, .pass (x := .inLoop c) rfl (fun _ _ => .inl (by simp)) harr⟩
      | panic ch => exact ⟨_, a₁, w₁, hq, .pass (x := .inLoop c) rfl (fun _ _ => .inl (by simp)) harr⟩
      | outgrown => exact ⟨_, a₁, w₁, hq, .pass (x := .inLoop c) rfl (fun _ _ => .inl (by simp)) harr⟩
  obtain ⟨e, a', w', hq, harr⟩ := key _ a w h0
  exact ⟨e, a', w', hq, .of_steps (.one step_loop) harr⟩
theorem Ok.loopN {c : Code} (n : Nat) (h : Ok N w0 H0 kx H fr kb (fun a w => Code.rounds P c Q n a w)) : OkC P N w0 H0 kx (.loop c) Q H fr kb := fun a w hs hm => wp_loop_rounds n (h a w hs hm)
theorem Ok.round {c : Code} {n : Nat} (h : OkC P N w0 H0 kx c (Exit.then (fun a w => Code.rounds P c Q n a w) Q) H fr kb) : Ok N w0 H0 kx H fr kb (fun a w => Code.rounds P c Q (n + 1) a w) := h
def Again (N : Nat) (w0 : World) (H0 : Snap) (kx : List Ent) (I : Snap → List (Nat × Value) → List Ent → Nat → Prop) (m : Nat) (a : Act) (w : World) : Prop := ∃ m', m' < m ∧ ∃ H fr kb, I H fr kb m' ∧ Slots N fr a ∧ Mem w0 H0 H (kb ++ kx) w
theorem Ok.loop {c : Code} (I : Snap → List (Nat × Value) → List Ent → Nat → Prop) (m0 : Nat) (h0 : I H fr kb m0)
    (round : ∀ H fr kb m, I H fr kb m → OkC P N w0 H0 kx c (Exit.then (Again N w0 H0 kx I m) Q) H fr kb) : OkC P N w0 H0 kx (.loop c) Q H fr kb := fun a w hs hm =>
  wp_loop_ex (fun m a w => ∃ H fr kb, I H fr kb m ∧ Slots N fr a ∧ Mem w0 H0 H (kb ++ kx) w) m0 ⟨H, fr, kb, h0, hs, hm⟩ fun m a' w' h' => by
    obtain ⟨H', fr', kb', h1, h2, h3⟩ := h'
    exact round H' fr' kb' m h1 a' w' h2 h3
theorem Ok.again {I : Snap → List (Nat × Value) → List Ent → Nat → Prop} {m : Nat} (m' : Nat) (h : I H fr kb m') (hlt : m' < m) : Ok N w0 H0 kx H fr kb (Again N w0 H0 kx I m) := fun a w hs hm => ⟨m', hlt, H, fr, kb, h, hs, hm⟩

theorem Ok.cases {G : Act → World → Prop} (t : Bool) (F : Bool → List (Nat × Value)) (hF : fr = F t) (ht : t = true → Ok N w0 H0 kx H (F true) kb G) (hf : t = false → Ok N w0 H0 kx H (F false) kb G) : Ok N w0 H0 kx H fr kb G := by
  subst hF
  cases t
  · exact hf rfl
  · exact ht rfl
theorem Ok.fin {fn : Func} {R : Ending → World → Prop} (h : OkQ N w0 H0 kx .ret (bodyPost P fn R) H fr kb) : OkQ N w0 H0 kx .normal (bodyPost P fn R) H fr kb := h

/-! ### Less of the frame, less of the memory; memory handed over for good -/
theorem Ok.restr {G : Act → World → Prop} (keep : List Nat) (fr' : List (Nat × Value)) (he : restrF fr keep = fr') (h : Ok N w0 H0 kx H fr' kb G) : Ok N w0 H0 kx H fr kb G := fun a w hs hm => h a w (hs.sub fun p hp => restrF_mem (by rw [he]; exact hp)) hm
theorem erase_pairwise {R : Ent → Ent → Prop} (kb : List Ent) (i : Nat) (h : kb.Pairwise R) : (kb.eraseIdx i).Pairwise R := h.sublist (List.eraseIdx_sublist kb i)
theorem Mem.drop {w : World} (h : Mem w0 H0 H kb w) (i : Nat) : Mem w0 H0 H (kb.eraseIdx i) w := { h with ents := fun e he => h.ents e ((List.eraseIdx_sublist kb i).subset he), apart := erase_pairwise kb i h.apart }
theorem eraseL {kb kx : List Ent} {i : Nat} {e : Ent} (hi : kb[i]? = some e) : (kb ++ kx).eraseIdx i = kb.eraseIdx i ++ kx := List.eraseIdx_append_of_lt_length (List.getElem?_eq_some_iff.1 hi).1 _
theorem atL {kb kx : List Ent} {i : Nat} {e : Ent} (hi : kb[i]? = some e) : (kb ++ kx)[i]? = some e := by rw [List.getElem?_append_left (List.getElem?_eq_some_iff.1 hi).1]; exact hi
theorem Ok.drop {G : Act → World → Prop} (i : Nat) {e : Ent} (hi : kb[i]? = some e) (kb' : List Ent) (he : kb.eraseIdx i = kb') (h : Ok N w0 H0 kx H fr kb' G) : Ok N w0 H0 kx H fr kb G := fun a w hs hm => h a w hs (by rw [← he, ← eraseL hi]; exact hm.drop i)
def Snap.set (H : Snap) (b : Nat) (o : Obj) : Snap := fun k => if k = b then some o else H k
theorem Snap.set_le {b : Nat} {o : Obj} (hb : H b = none) : SLe H (Snap.set H b o) := fun k o' h => by
  unfold Snap.set
  rw [if_neg (by intro e; subst e; rw [hb] at h; cases h)]
  exact h
theorem Snap.set_at {b : Nat} {o : Obj} : Snap.set H b o b = some o := by simp [Snap.set]
theorem erase_apart {kb : List Ent} {i : Nat} {e : Ent} (hp : kb.Pairwise (fun a b => ∀ k, a.at_ = some k → b.at_ ≠ some k)) (hi : kb[i]? = some e) : ∀ x ∈ kb.eraseIdx i, ∀ k, e.at_ = some k → x.at_ ≠ some k := by
  intro x hx k hk hx2
  rw [List.mem_eraseIdx_iff_getElem?] at hx
  obtain ⟨j, hji, hj⟩ := hx
  have h1 := List.pairwise_iff_getElem.1 hp
  have hil := (List.getElem?_eq_some_iff.1 hi).1
  have hjl := (List.getElem?_eq_some_iff.1 hj).1
  have e1 : kb[i] = e := (List.getElem?_eq_some_iff.1 hi).2
  have e2 : kb[j] = x := (List.getElem?_eq_some_iff.1 hj).2
  rcases Nat.lt_or_gt_of_ne hji with h2 | h2
  · have := h1 j i hjl hil h2 k (by rw [e2]; exact hx2)
    rw [e1] at this
    exact this hk
  · have := h1 i j hil hjl h2 k (by rw [e1]; exact hk)
    rw [e2] at this
    exact this hx2
theorem Mem.give {w : World} (h : Mem w0 H0 H kb w) (i : Nat) {e : Ent} (hi : kb[i]? = some e) {b : Nat} (hb : e.at_ = some b) {o : Obj} (ho : w.heap[b]? = some o) : Mem w0 H0 (Snap.set H b o) (kb.eraseIdx i) w := by
  have hmem := List.mem_of_getElem? hi
  have hn := (h.ents e hmem).2 b hb
  have hlt := Ent.lies_lt (h.ents e hmem).1 b hb
  refine ⟨h.below, ?_, h.le.trans (Snap.set_le hn), ?_, erase_pairwise kb i h.apart⟩
  · intro k o' hk
    unfold Snap.set at hk
    split at hk
    · rename_i e1
      subst e1
      injection hk with hk
      subst hk
      exact ho
    · exact h.holds k o' hk
  · intro x hx
    refine ⟨(h.ents x ((List.eraseIdx_sublist kb i).subset hx)).1, fun k hk => ?_⟩
    unfold Snap.set
    rw [if_neg]
    · exact (h.ents x ((List.eraseIdx_sublist kb i).subset hx)).2 k hk
    · intro e1
      subst e1
      exact erase_apart h.apart hi x hx k hb hk
theorem Ok.pub {G : Act → World → Prop} (i : Nat) {b t : Nat} {cs : List Value} (hi : kb[i]? = some (.blk b cs t)) (kb' : List Ent) (he : kb.eraseIdx i = kb')
    (h : ∀ H', SLe H H' → H' b = some (.cells cs.toArray t (0, 0)) → Ok N w0 H0 kx H' fr kb' G) : Ok N w0 H0 kx H fr kb G := fun a w hs hm => by
  have hl := (hm.ents _ (List.mem_of_getElem? (atL hi))).1
  have hn := (hm.ents _ (List.mem_of_getElem? (atL hi))).2 b rfl
  have h1 := hm.give i (atL hi) (b := b) rfl hl.2
  rw [eraseL hi, he] at h1
  exact h _ (Snap.set_le hn) Snap.set_at a w hs h1
/-- What is known of a row that was handed over. -/
def RowIn (H : Snap) (v : Value) (n sz e : Nat) (xs : List Value) : Prop :=
  xs.length = n * sz ∧ ((v = .slice none 0 0 ∧ n = 0) ∨ ∃ g cap cur, v = .slice (some ⟨g, 0, none⟩) n cap ∧ H g = some (.cells cur e (0, 0)) ∧ n ≤ cap ∧ cap ≤ maxLen ∧ cur.size = cap * sz ∧ cur.toList.take (n * sz) = xs)
theorem Ok.pubRow {G : Act → World → Prop} (i : Nat) {v : Value} {n sz e : Nat} {xs : List Value} (hi : kb[i]? = some (.row v n sz e xs)) (kb' : List Ent) (he : kb.eraseIdx i = kb')
    (h : ∀ H', SLe H H' → RowIn H' v n sz e xs → Ok N w0 H0 kx H' fr kb' G) : Ok N w0 H0 kx H fr kb G := fun a w hs hm => by
  have hl := (hm.ents _ (List.mem_of_getElem? (atL hi))).1
  have hl' : w.ownsRow w0.heap.size e sz v n xs := hl
  rcases hl'.2 with ⟨hv, hn⟩ | ⟨g, cap, cur, hv, hg, hh, h1, h2, h3, h4⟩
  · exact h H (SLe.refl H) ⟨hl'.1, .inl ⟨hv, hn⟩⟩ a w hs (by rw [← he, ← eraseL hi]; exact hm.drop i)
  · have hat : (Ent.row v n sz e xs).at_ = some g := by subst hv; rfl
    have hn := (hm.ents _ (List.mem_of_getElem? (atL hi))).2 g hat
    have h5 := hm.give i (atL hi) hat hh
    rw [eraseL hi, he] at h5
    exact h _ (Snap.set_le hn) ⟨hl'.1, .inr ⟨g, cap, cur, hv, Snap.set_at, h1, h2, h3, h4⟩⟩ a w hs h5

/-! ### Calls and returns -/
def Ret (w0 : World) (H0 : Snap) (kx : List Ent) (Hs : Snap) (Post : Value → Snap → List Ent → Prop) (e : Ending) (w : World) : Prop := ∃ v H kb, e = .returned v ∧ SLe Hs H ∧ Mem w0 H0 H (kb ++ kx) w ∧ Post v H kb
/-- A call's contract: for good memory H and the memory kb that is handed in to be written. -/
def Does (P : Program) (f : FuncId) (args : List Value) (H : Snap) (kb : List Ent) (Post : Value → Snap → List Ent → Prop) : Prop := ∀ w0 H0 kx w, Mem w0 H0 H (kb ++ kx) w → Calls P f args.toArray w (Ret w0 H0 kx H Post)
def callOf (P : Program) (N : Nat) (ops : Array Oper) (fr : List (Nat × Value)) : List Oper → Option (Nat × List Value × Option Tmp)
  | [] => none
  | o :: _ => match wantG ops fr o, dstOk N o.dst, notSel o.op, known fr o.op.operands.toList with
    | some true, true, true, true => match go P (fun _ => none) (execOp (rho fr) o) [] 0 [] with
      | some out => match out.val with
        | .enter f args => some (f, args.toList, o.dst)
        | _ => none
      | none => none
    | _, _, _, _ => none
theorem go_pure_run {α : Type} : ∀ (s : Sem α) (o : Out α), go P (fun _ => none) s [] 0 [] = some o → ∀ w, s.run P w = .ok o.val w
  | .pure a, o, h, w => by
    simp only [go, Option.some.injEq] at h
    subst h
    rfl
  | .program k, o, h, w => by
    simp only [go] at h
    simpa only [Sem.run] using go_pure_run (k P) o h w
  | .mark _ k, o, h, w => by
    simp only [go] at h
    simpa only [Sem.run] using go_pure_run k o h w
  | .load .., o, h, _ => by simp [go] at h
  | .store .., o, h, _ => by simp [go] at h
  | .new .., o, h, _ => by simp [go] at h
  | .shape .., o, h, _ => by simp [go] at h
  | .freeze .., o, h, _ => by simp [go] at h
  | .frozen .., o, h, _ => by simp [go] at h
  | .getObj .., o, h, _ => by simp [go] at h
  | .setObj .., o, h, _ => by simp [go] at h
  | .choose .., o, h, _ => by simp [go] at h
  | .sys .., o, h, _ => by simp [go] at h
  | .halt _, o, h, _ => by simp [go] at h
theorem callOf_spec {f : Nat} {args : List Value} {d : Option Tmp} {l : List Oper} (h : callOf P N ops fr l = some (f, args, d)) : ∃ o r, l = o :: r ∧ o.dst = d ∧ dstOk N d = true ∧ wantG ops fr o = some true ∧ ∀ a w, Slots N fr a → (execOp a.eval o).run P w = .ok (.enter f args.toArray) w := by
  unfold callOf at h
  split at h <;> try (cases h; done)
  rename_i o r
  split at h <;> try (cases h; done)
  rename_i h1 h2 h3 h4
  split at h <;> try (cases h; done)
  rename_i out hgo
  split at h <;> try (cases h; done)
  rename_i f' args' hv
  injection h with h
  injection h with e1 h
  injection h with e2 e3
  subst e1; subst e2; subst e3
  refine ⟨o, r, rfl, rfl, h2, h1, fun a w hs => ?_⟩
  rw [hs.exec (notSel_spec h3) h4, go_pure_run _ _ hgo w, hv]
/-- One operation that is carried out, with what follows as G. -/
def Eff (P : Program) (N : Nat) (w0 : World) (H0 : Snap) (kx : List Ent) (ops : Array Oper) (Q : Exit → Act → World → Prop) (o : Option Oper) (H : Snap) (fr : List (Nat × Value)) (kb : List Ent) (G : Act → World → Prop) : Prop :=
  ∃ o', o = some o' ∧ ∀ a w, Slots N fr a → Mem w0 H0 H (kb ++ kx) w → Region.wanted o' (yielded ops a.tmps) = true ∧ ∀ K, (∀ a w, G a w → K a w) → o'.wp P a w K Q
theorem drop_cons {l : List Oper} {i : Nat} {o : Oper} (h : l[i]? = some o) : l.drop i = o :: l.drop (i + 1) := by
  have h1 := (List.getElem?_eq_some_iff.1 h)
  rw [List.drop_eq_getElem_cons h1.1, h1.2]
theorem Ok.eff {i j : Nat} (hj : i + 1 = j) (h : Eff P N w0 H0 kx ops Q ops.toList[i]? H fr kb (fun a w => wpList P ops Q (ops.toList.drop j) a w)) : OkI P N w0 H0 kx ops Q i H fr kb := fun a w hs hm => by
  obtain ⟨o, ho, h1⟩ := h
  obtain ⟨h2, h3⟩ := h1 a w hs hm
  show wpList P ops Q (ops.toList.drop i) a w
  rw [drop_cons ho]
  unfold wpList
  rw [if_pos h2]
  refine .inl (h3 _ fun a w hg => ?_)
  rw [hj]
  exact hg
theorem Eff.call {G : Act → World → Prop} {o : Option Oper} {f : Nat} {args : List Value} {d : Option Tmp} {kp kr : List Ent} (hc : callOf P N ops fr o.toList = some (f, args, d)) (hkb : kb.Perm (kp ++ kr)) {Post : Value → Snap → List Ent → Prop} (hspec : Does P f args H kp Post)
    (h : ∀ v H' kp', SLe H H' → Post v H' kp' → Ok N w0 H0 kx H' (putF fr d v) (kp' ++ kr) G) : Eff P N w0 H0 kx ops Q o H fr kb G := by
  obtain ⟨o', r, hl, hd, hdk, hw, hrun⟩ := callOf_spec hc
  have ho : o = some o' := by
    cases o with
    | none => cases hl
    | some x => injection hl with e; rw [e]
  refine ⟨o', ho, fun a w hs hm => ⟨wantG_spec hw hs, fun K hK => ?_⟩⟩
  unfold Oper.wp
  rw [hrun a w hs, Oper.upon_enter]
  have hm2 : Mem w0 H0 H (kp ++ (kr ++ kx)) w := hm.perm (by rw [← List.append_assoc]; exact hkb.append_right kx)
  refine (hspec w0 H0 (kr ++ kx) w hm2).mono fun e w' he => ?_
  obtain ⟨v, H', kp', rfl, h1, h2, h3⟩ := he
  subst hd
  exact hK _ _ (h v H' kp' h1 h3 (a.put o'.dst v) w' (hs.put (dstOk_spec hdk) v) (by rw [List.append_assoc]; exact h2))
/-- A call that is handed nothing to be written. -/
theorem Eff.call0 {G : Act → World → Prop} {o : Option Oper} {f : Nat} {args : List Value} {d : Option Tmp} (hc : callOf P N ops fr o.toList = some (f, args, d)) {Post : Value → Snap → List Ent → Prop} (hspec : Does P f args H [] Post)
    (h : ∀ v H' kp', SLe H H' → Post v H' kp' → Ok N w0 H0 kx H' (putF fr d v) (kp' ++ kb) G) : Eff P N w0 H0 kx ops Q o H fr kb G := Eff.call hc (kp := []) (kr := kb) (List.Perm.refl _) hspec h
/-- An operation by evaluation, one that makes or writes memory. -/
theorem Eff.op {G : Act → World → Prop} {o : Option Oper} (hh : OpH) (fr' : Nat → List (Nat × Value)) (kb' : Nat → List Ent) (L : Nat → List Nat) (ex : Nat → List Prop) (keep : List Nat)
    (h : ∀ b, (match o with | some o' => (match wantG ops fr o' with | some true => (match opGo P H N ops fr kb b o' hh with | some s => some (⟨restrF s.fr keep, s.kb, s.E, s.ex⟩ : Fin) | none => none) | _ => none) | none => none) = some ⟨fr' b, kb' b, dup (L b), ex b⟩) (hx : ∀ b, allP (ex b))
    (hk : ∀ b, Ok N w0 H0 kx H (fr' b) (kb' b) G) : Eff P N w0 H0 kx ops Q o H fr kb G := by
  cases o with
  | none => cases h 0
  | some o' =>
    refine ⟨o', rfl, fun a w hs hm => ?_⟩
    have h1 := h w.heap.size
    simp only at h1
    split at h1 <;> try (cases h1; done)
    rename_i hw
    split at h1 <;> try (cases h1; done)
    rename_i s hop
    injection h1 with h1
    injection h1 with e1 e2 e3 e4
    rcases opGo_run hs hm hop (by rw [e3]; exact allE_dup _) (by rw [e4]; exact hx _) with ⟨h2, _⟩ | ⟨h2, a', w', a1, a2, a3, a4⟩
    · rw [wantG_spec hw hs] at h2
      cases h2
    · refine ⟨h2, fun K hK => a4 K Q (hK _ _ (hk w.heap.size a' w' (by rw [← e1]; exact a1.sub fun p hp => restrF_mem hp) (by rw [← e2]; exact a2)))⟩
def mkFr : Nat → List Value → List (Nat × Value)
  | _, [] => []
  | i, v :: r => (i, v) :: mkFr (i + 1) r
theorem mkFr_mem : ∀ {l : List Value} {i : Nat} {p : Nat × Value}, p ∈ mkFr i l → i ≤ p.1 ∧ l[p.1 - i]? = some p.2
  | [], _, _, h => by cases h
  | v :: r, i, p, h => by
    rcases List.mem_cons.1 h with rfl | h
    · simp
    · obtain ⟨h1, h2⟩ := mkFr_mem h
      refine ⟨by omega, ?_⟩
      obtain ⟨k, hk⟩ : ∃ k, p.1 - i = k + 1 := ⟨p.1 - (i + 1), by omega⟩
      rw [hk]
      have : p.1 - (i + 1) = k := by omega
      rw [this] at h2
      simpa using h2
theorem Does.of {f : FuncId} {fn : Func} {c : Code} {args : List Value} {Post : Value → Snap → List Ent → Prop} (hf : P.funcs[f]? = some fn) (hb : fn.body = some c) (hN : fn.ntmps = N) (hle : Nat.ble args.length N = true) (hfr : mkFr 0 args = fr)
    (h : ∀ w0 H0 kx, OkC P N w0 H0 kx c (bodyPost P fn (Ret w0 H0 kx H Post)) H fr kb) : Does P f args H kb Post := fun w0 H0 kx w hm => by
  have hle := Nat.le_of_ble_eq_true hle
  refine calls_of_wp hf hb (h w0 H0 kx _ w ⟨rfl, ?_, ?_⟩ hm)
  · simp; omega
  · intro p hp
    subst hfr
    obtain ⟨_, h2⟩ := mkFr_mem hp
    rw [Nat.sub_zero] at h2
    have := (List.getElem?_eq_some_iff.1 h2).1
    rw [Array.getElem?_append_left (by simpa using this)]
    simpa using h2
theorem Ret.mk {Hs : Snap} {w : World} {Post : Value → Snap → List Ent → Prop} {v : Value} (h : Mem w0 H0 H (kb ++ kx) w) (hle : SLe Hs H) (hp : Post v H kb) : Ret w0 H0 kx Hs Post (.returned v) w := ⟨v, H, kb, rfl, hle, h, hp⟩
theorem bodyPost_any {fn : Func} {R : Ending → World → Prop} {a : Act} {w : World} {v : Value} (hd : a.defers = []) (hr : (results fn a.tmps).run P w = .ok v w) (hR : R (.returned v) w) : bodyPost P fn R .ret a w := ⟨hd, v, hr, hR⟩
theorem getD_of {l : Array Value} {t : Nat} {v : Value} (h : l[t]? = some v) : l.getD t undef = v := by simp [h]
theorem Ok.ret1 {fn : Func} {t : Nat} {v : Value} {Hs : Snap} {Post : Value → Snap → List Ent → Prop} (hle : SLe Hs H) (hr : fn.results = #[.tmp t]) (hl : lk fr t = some v) (hp : Post v H kb) : OkQ N w0 H0 kx .ret (bodyPost P fn (Ret w0 H0 kx Hs Post)) H fr kb := fun a w hs hm =>
  bodyPost_any hs.1 (by simp [results, hr, hs.lk hl]) (Ret.mk hm hle hp)
theorem Ok.ret0 {fn : Func} {Hs : Snap} {Post : Value → Snap → List Ent → Prop} (hle : SLe Hs H) (hr : fn.results = #[]) (hp : Post (.tuple #[]) H kb) : OkQ N w0 H0 kx .ret (bodyPost P fn (Ret w0 H0 kx Hs Post)) H fr kb := fun a w hs hm =>
  bodyPost_any hs.1 (by simp [results, hr]) (Ret.mk hm hle hp)
theorem Ok.ret2 {fn : Func} {t u : Nat} {v x : Value} {Hs : Snap} {Post : Value → Snap → List Ent → Prop} (hle : SLe Hs H) (hr : fn.results = #[.tmp t, .tmp u]) (hl : lk fr t = some v) (hl2 : lk fr u = some x) (hp : Post (.tuple #[v, x]) H kb) : OkQ N w0 H0 kx .ret (bodyPost P fn (Ret w0 H0 kx Hs Post)) H fr kb := fun a w hs hm =>
  bodyPost_any hs.1 (by simp [results, hr, hs.lk hl, hs.lk hl2]) (Ret.mk hm hle hp)
/-- What only reads, carried out by evaluation. -/
structure OutQ (α : Type) where
  val : α
  E : List (Nat × Nat)
  ex : List Prop
def goQ {α : Type} (P : Program) (H : Snap) : Sem α → List Ent → List Hint → Option (OutQ α)
  | .pure a, _, [] => some ⟨a, [], []⟩
  | .program k, kb, hs => goQ P H (k P) kb hs
  | .mark _ k, kb, hs => goQ P H k kb hs
  | .load _ a k, kb, .K i off :: hs => match kb[i]? with
    | some (.blk b cs _) => match a.spot, Nat.beq a.off off, cs[off]? with
      | none, true, some v => (goQ P H (k v) kb hs).map fun o => ⟨o.val, (a.block, b) :: o.E, o.ex⟩
      | _, _, _ => none
    | _ => none
  | .load _ a k, kb, .X v :: hs => (goQ P H (k v) kb hs).map fun o => ⟨o.val, o.E, HasCell H a v :: o.ex⟩
  | .load _ a k, kb, .R i j v :: hs => match kb[i]? with
    | some (.row rv _ _ _ xs) => (goQ P H (k v) kb hs).map fun o => ⟨o.val, o.E, (RowAt rv a j ∧ xs[j]? = some v) :: o.ex⟩
    | _ => none
  | _, _, _ => none
theorem outQ_map {α : Type} {x : Option (OutQ α)} {o : OutQ α} {f : OutQ α → OutQ α} (h : x.map f = some o) : ∃ p, x = some p ∧ o = f p := by
  cases x with
  | none => cases h
  | some p => exact ⟨p, rfl, (Option.some.inj h).symm⟩
def Lies (base : Nat) (kb : List Ent) (w : World) : Prop := ∀ e ∈ kb, e.lies base w
theorem goQ_run {α : Type} {base : Nat} : ∀ (s : Sem α) (kb : List Ent) (hs : List Hint) (o : OutQ α), goQ P H s kb hs = some o → allE o.E → allP o.ex → ∀ w, Holds H w → Lies base kb w → s.run P w = .ok o.val w
  | .pure a, kb, [], o, h, _, _, w, hm, hn => by
    simp only [goQ, Option.some.injEq] at h
    subst h
    rfl
  | .pure a, kb, _ :: _, o, h, _, _, w, hm, hn => by simp [goQ] at h
  | .program k, kb, hs, o, h, hl, hx, w, hm, hn => by
    simp only [goQ] at h
    simpa only [Sem.run] using goQ_run (k P) kb hs o h hl hx w hm hn
  | .mark _ k, kb, hs, o, h, hl, hx, w, hm, hn => by
    simp only [goQ] at h
    simpa only [Sem.run] using goQ_run k kb hs o h hl hx w hm hn
  | .load m a k, kb, [], o, h, _, _, w, hm, hn => by simp [goQ] at h
  | .load m a k, kb, .K i off :: hs, o, h, hl, hx, w, hm, hn => by
    simp only [goQ] at h
    split at h
    · rename_i b cs t hi
      split at h
      · rename_i v hsp hoff hv
        obtain ⟨p, hp, rfl⟩ := outQ_map h
        simp only [allE] at hl
        have hoff := Nat.eq_of_beq_eq_true hoff
        have hl1 : base ≤ b ∧ w.heap[b]? = some (.cells cs.toArray t (0, 0)) := hn _ (List.mem_of_getElem? hi)
        have hc : w.cell? a = some v := by
          obtain ⟨ab, ao, asp⟩ := a
          simp only at hsp hoff hl
          rw [hsp, hoff, hl.1, cell_of_blk hl1.2]
          exact hv
        simp only [Sem.run, hc]
        exact goQ_run (k v) kb hs p hp hl.2 hx w hm hn
      · cases h
    · cases h
  | .load m a k, kb, .X v :: hs, o, h, hl, hx, w, hm, hn => by
    simp only [goQ] at h
    obtain ⟨p, hp, rfl⟩ := outQ_map h
    simp only [allP] at hx
    simp only [Sem.run, has_cell hm hx.1]
    exact goQ_run (k v) kb hs p hp hl hx.2 w hm hn
  | .load m a k, kb, .R i j v :: hs, o, h, hl, hx, w, hm, hn => by
    simp only [goQ] at h
    split at h
    · rename_i rv n sz e xs hi
      obtain ⟨p, hp, rfl⟩ := outQ_map h
      simp only [allP] at hx
      obtain ⟨⟨⟨g, n', cap, rfl, rfl⟩, hj⟩, hx2⟩ := hx
      have hl1 : w.ownsRow base e sz (.slice (some ⟨g, 0, none⟩) n' cap) n xs := hn _ (List.mem_of_getElem? hi)
      have hc : w.cell? ⟨g, j, none⟩ = some v := by
        have := hl1.cells (g := g) rfl j v hj
        have ha : (⟨g, 0, none⟩ : Addr).add j = ⟨g, j, none⟩ := by unfold Addr.add; split <;> simp_all
        rwa [ha] at this
      simp only [Sem.run, hc]
      exact goQ_run (k v) kb hs p hp hl hx2 w hm hn
    · cases h
  | .load m a k, kb, .RS _ _ :: hs, o, h, _, _, w, hm, hn => by simp [goQ] at h
  | .load m a k, kb, .N :: hs, o, h, _, _, w, hm, hn => by simp [goQ] at h
  | .store .., kb, hs, o, h, _, _, w, hm, hn => by simp [goQ] at h
  | .new .., kb, hs, o, h, _, _, w, hm, hn => by simp [goQ] at h
  | .shape .., kb, hs, o, h, _, _, w, hm, hn => by simp [goQ] at h
  | .freeze .., kb, hs, o, h, _, _, w, hm, hn => by simp [goQ] at h
  | .frozen .., kb, hs, o, h, _, _, w, hm, hn => by simp [goQ] at h
  | .getObj .., kb, hs, o, h, _, _, w, hm, hn => by simp [goQ] at h
  | .setObj .., kb, hs, o, h, _, _, w, hm, hn => by simp [goQ] at h
  | .choose .., kb, hs, o, h, _, _, w, hm, hn => by simp [goQ] at h
  | .sys .., kb, hs, o, h, _, _, w, hm, hn => by simp [goQ] at h
  | .halt _, kb, hs, o, h, _, _, w, hm, hn => by simp [goQ] at h
theorem Mem.lies {w : World} (h : Mem w0 H0 H kb w) : Lies w0.heap.size kb w := fun e he => (h.ents e he).1
theorem Mem.liesL {w : World} (h : Mem w0 H0 H (kb ++ kx) w) : Lies w0.heap.size kb w := fun e he => (h.ents e (List.mem_append_left kx he)).1
/-- A result that lies in memory. -/
def cellGo (P : Program) (H : Snap) (kb : List Ent) (v : Option Value) (ty : Nat) (hs : List Hint) : Option (OutQ Value) :=
  match v with
  | some (.pointer (some ad)) => goQ P H (loadVar ty ad) kb hs
  | _ => none
theorem cellGo_run {base t ty : Nat} {hs : List Hint} {v : Value} {L : List Nat} {a : Act} {w : World} (hg : cellGo P H kb (lk fr t) ty hs = some ⟨v, dup L, []⟩) (hs2 : Slots N fr a) (hh : Holds H w) (hl : Lies base kb w) :
    ∃ ad, a.tmps[t]? = some (.pointer (some ad)) ∧ (loadVar ty ad).run P w = .ok v w := by
  unfold cellGo at hg
  split at hg
  · rename_i ad hk
    exact ⟨ad, hs2.lk hk, goQ_run _ _ _ _ hg (allE_dup _) trivial w hh hl⟩
  · cases hg
theorem Ok.ret1c {fn : Func} {t ty : Nat} {Hs : Snap} {Post : Value → Snap → List Ent → Prop} (hle : SLe Hs H) (hs : List Hint) (v : Value) (L : List Nat) (hr : fn.results = #[.cell t ty]) (hg : cellGo P H kb (lk fr t) ty hs = some ⟨v, dup L, []⟩) (hp : Post v H kb) :
    OkQ N w0 H0 kx .ret (bodyPost P fn (Ret w0 H0 kx Hs Post)) H fr kb := fun a w hs2 hm => by
  obtain ⟨ad, h1, h2⟩ := cellGo_run hg hs2 hm.holds hm.liesL
  exact bodyPost_any hs2.1 (by simp only [results, hr]; simp [h1, asAddr, h2]) (Ret.mk hm hle hp)
theorem Ok.ret2c {fn : Func} {t ty u : Nat} {Hs : Snap} {Post : Value → Snap → List Ent → Prop} (hle : SLe Hs H) (hs : List Hint) (v x : Value) (L : List Nat) (hr : fn.results = #[.cell t ty, .tmp u]) (hg : cellGo P H kb (lk fr t) ty hs = some ⟨v, dup L, []⟩) (hl : lk fr u = some x) (hp : Post (.tuple #[v, x]) H kb) :
    OkQ N w0 H0 kx .ret (bodyPost P fn (Ret w0 H0 kx Hs Post)) H fr kb := fun a w hs2 hm => by
  obtain ⟨ad, h1, h2⟩ := cellGo_run hg hs2 hm.holds hm.liesL
  exact bodyPost_any hs2.1 (by simp only [results, hr]; simp [h1, asAddr, h2, hs2.lk hl]) (Ret.mk hm hle hp)
end
end Go.Proofs.YtdifenljfklolaaGreatDoor.Sx
