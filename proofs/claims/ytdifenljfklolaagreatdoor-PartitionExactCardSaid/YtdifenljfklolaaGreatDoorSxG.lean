/- The engine's rows in short form: what the printer of this claim's author writes. Plain theorems over any program. -/
import Derived.Test.YtdifenljfklolaaGreatDoorSxF
set_option linter.unusedVariables false
set_option linter.unusedSimpArgs false
namespace Go.Proofs.YtdifenljfklolaaGreatDoor.Sx
open Go Go.RowKit Go.Proofs.YtdifenljfklolaaGreatDoorW.PrintLast

theorem allE_of : ∀ {l : List (Nat × Nat)}, l.map Prod.fst = l.map Prod.snd → allE l
  | [], _ => trivial
  | p :: r, h => by
    simp only [List.map_cons, List.cons.injEq] at h
    exact ⟨h.1, allE_of h.2⟩
theorem ex0 : allP [] := trivial
theorem ex1 {p : Prop} {l : List Prop} (h : p) (k : allP l) : allP (p :: l) := ⟨h, k⟩
abbrev gz : OpH := .g []
abbrev w64 (z : Int) : Int := IntKind.i64.wrap z
theorem wid {x : Int} (h : -9223372036854775808 ≤ x ∧ x < 9223372036854775808) : w64 x = x := by
  unfold w64 IntKind.wrap
  have e1 : (2 : Int) ^ IntKind.i64.bits = 18446744073709551616 := by decide
  have e2 : (2 : Int) ^ (IntKind.i64.bits - 1) = 9223372036854775808 := by decide
  have e3 : IntKind.i64.signed = true := rfl
  simp only [e1, e2, e3, Bool.true_and, decide_eq_true_eq]
  split <;> omega
theorem tr {A B C : Snap} (h : SLe A B) (k : SLe B C) : SLe A C := h.trans k
def memN : List Nat → Nat → Bool
  | [], _ => false
  | x :: r, t => match Nat.beq x t with
    | true => true
    | false => memN r t
/-- Slots of the frame at which a test's answer is put. -/
def setB (s : List Nat) (v : Value) : List (Nat × Value) → List (Nat × Value)
  | [] => []
  | p :: r => (p.1, match memN s p.1 with
    | true => v
    | false => p.2) :: setB s v r
def onL (l : List Bool) : List (Nat × OpH) → List Bool
  | [] => l
  | q :: r => onL (l.set q.1 true) r
def selD (kb : List Ent) (idx : List Nat) : List Ent := (sel kb idx).getD []
section
variable {P : Program} {N : Nat} {w0 : World} {H0 H Hs : Snap} {kx kbs : List Ent} {fr : List (Nat × Value)} {kb : List Ent} {ops : Array Oper} {Q : Exit → Act → World → Prop} {ds : List Nat}
def segL (P : Program) (H : Snap) (N : Nat) (ops : Array Oper) (i : Nat) (fr : List (Nat × Value)) (kb : List Ent) (nb : Nat) (hs : List OpH) (keep : List Nat) : Option (List (Nat × Value) × List Ent × List Nat × List Prop) :=
  match segGo P H N ops (ops.toList.drop i) fr kb nb hs with
  | some s => some (restrF s.fr keep, s.kb, s.E.map Prod.fst, s.ex)
  | none => none
def segR (P : Program) (H : Snap) (N : Nat) (ops : Array Oper) (i : Nat) (fr : List (Nat × Value)) (kb : List Ent) (nb : Nat) (hs : List OpH) (fr' : List (Nat × Value)) (kb' : List Ent) (ex : List Prop) : Option (List (Nat × Value) × List Ent × List Nat × List Prop) :=
  match segGo P H N ops (ops.toList.drop i) fr kb nb hs with
  | some s => some (fr', kb', s.E.map Prod.snd, ex)
  | none => some (fr', kb', [], ex)
theorem seg_of {i nb : Nat} {hs : List OpH} {fr' : List (Nat × Value)} {kb' : List Ent} {ex : List Prop} (h : segL P H N ops i fr kb nb hs (fr'.map Prod.fst) = segR P H N ops i fr kb nb hs fr' kb' ex) :
    ∃ s, segGo P H N ops (ops.toList.drop i) fr kb nb hs = some s ∧ restrF s.fr (fr'.map Prod.fst) = fr' ∧ s.kb = kb' ∧ allE s.E ∧ s.ex = ex := by
  unfold segL segR at h
  cases hg : segGo P H N ops (ops.toList.drop i) fr kb nb hs with
  | none => rw [hg] at h; cases h
  | some s =>
    rw [hg] at h
    simp only [Option.some.injEq, Prod.mk.injEq] at h
    exact ⟨s, rfl, h.1, h.2.1, allE_of h.2.2.1, h.2.2.2⟩
/-- A piece: frame and memory behind it by the block that is made next. -/
theorem g5 (j : Nat) {i : Nat} {ex : Nat → List Prop} (fr' : Nat → List (Nat × Value)) (kb' : Nat → List Ent) (hs : List OpH) (hx : ∀ b, allP (ex b)) (hj : i + hs.length = j) (hk : ∀ b, OkI P N w0 H0 kx ops Q j H (fr' b) (kb' b))
    (h : ∀ b, segL P H N ops i fr kb b hs ((fr' b).map Prod.fst) = segR P H N ops i fr kb b hs (fr' b) (kb' b) (ex b) := by intro _; kernel_rfl) : OkI P N w0 H0 kx ops Q i H fr kb := by
  intro a w hs1 hm
  obtain ⟨s, hseg, e1, e2, e3, e4⟩ := seg_of (h w.heap.size)
  refine seg_run hs _ _ _ s a w hs1 hm hseg e3 (by rw [e4]; exact hx _) fun a' w' a1 a2 => ?_
  have h2 := hk w.heap.size a' w' (by rw [← e1]; exact a1.sub fun p hp => restrF_mem hp) (by rw [← e2]; exact a2)
  rw [List.drop_drop, hj]
  exact h2
theorem g4 (j : Nat) {i : Nat} (fr' : Nat → List (Nat × Value)) (kb' : Nat → List Ent) (hs : List OpH) (hj : i + hs.length = j) (hk : ∀ b, OkI P N w0 H0 kx ops Q j H (fr' b) (kb' b))
    (h : ∀ b, segL P H N ops i fr kb b hs ((fr' b).map Prod.fst) = segR P H N ops i fr kb b hs (fr' b) (kb' b) [] := by intro _; kernel_rfl) : OkI P N w0 H0 kx ops Q i H fr kb := g5 j fr' kb' hs (fun _ => ex0) hj hk h
theorem g3 (j : Nat) {i : Nat} {ex : List Prop} (fr' : List (Nat × Value)) (kb' : List Ent) (hs : List OpH) (hx : allP ex) (hj : i + hs.length = j) (hk : OkI P N w0 H0 kx ops Q j H fr' kb')
    (h : ∀ b, segL P H N ops i fr kb b hs (fr'.map Prod.fst) = segR P H N ops i fr kb b hs fr' kb' ex := by intro _; kernel_rfl) : OkI P N w0 H0 kx ops Q i H fr kb := g5 j (fun _ => fr') (fun _ => kb') hs (fun _ => hx) hj (fun _ => hk) h
theorem g2 (j : Nat) {i : Nat} {ex : List Prop} (fr' : List (Nat × Value)) (hs : List OpH) (hx : allP ex) (hj : i + hs.length = j) (hk : OkI P N w0 H0 kx ops Q j H fr' kb)
    (h : ∀ b, segL P H N ops i fr kb b hs (fr'.map Prod.fst) = segR P H N ops i fr kb b hs fr' kb ex := by intro _; kernel_rfl) : OkI P N w0 H0 kx ops Q i H fr kb := g3 j fr' kb hs hx hj hk h
theorem g1 (j : Nat) {i : Nat} (fr' : List (Nat × Value)) (kb' : List Ent) (hs : List OpH) (hj : i + hs.length = j) (hk : OkI P N w0 H0 kx ops Q j H fr' kb')
    (h : ∀ b, segL P H N ops i fr kb b hs (fr'.map Prod.fst) = segR P H N ops i fr kb b hs fr' kb' [] := by intro _; kernel_rfl) : OkI P N w0 H0 kx ops Q i H fr kb := g3 j fr' kb' hs ex0 hj hk h
theorem g0 (j : Nat) {i : Nat} (fr' : List (Nat × Value)) (hs : List OpH) (hj : i + hs.length = j) (hk : OkI P N w0 H0 kx ops Q j H fr' kb)
    (h : ∀ b, segL P H N ops i fr kb b hs (fr'.map Prod.fst) = segR P H N ops i fr kb b hs fr' kb [] := by intro _; kernel_rfl) : OkI P N w0 H0 kx ops Q i H fr kb := g1 j fr' kb hs hj hk h
theorem sr {id : Nat} {y : Code} (h : OkI P N w0 H0 kx ops (Exit.then (fun a w => y.wp P Q a w) Q) 0 H fr kb) : OkC P N w0 H0 kx (.seq (.region id ops false) y) Q H fr kb := Ok.seq (Ok.reg h)
theorem en {i : Nat} {K : Act → World → Prop} (he : Nat.ble ops.size i = true) (h : Ok N w0 H0 kx H fr kb K) : OkI P N w0 H0 kx ops (Exit.then K Q) i H fr kb := Ok.segEnd he (Ok.thenN h)
theorem skn {K : Act → World → Prop} (h : Ok N w0 H0 kx H fr kb K) : OkC P N w0 H0 kx .skip (Exit.then K Q) H fr kb := Ok.skip_ (Ok.thenN h)
theorem cs {G : Act → World → Prop} (t : Bool) (s : List Nat) (ht : t = true → Ok N w0 H0 kx H (setB s bT fr) kb G) (hf : t = false → Ok N w0 H0 kx H (setB s bF fr) kb G)
    (hF : fr = setB s (.bool t) fr := by kernel_rfl) : Ok N w0 H0 kx H fr kb G := by
  rw [hF]
  cases t
  · exact hf rfl
  · exact ht rfl
theorem cd {c : Operand} {x y : Code} (b : Bool) (ht : b = true → OkC P N w0 H0 kx x Q H fr kb) (hf : b = false → OkC P N w0 H0 kx y Q H fr kb) (hc : evO fr c = some (.bool b) := by kernel_rfl) : OkC P N w0 H0 kx (.cond c x y) Q H fr kb := Ok.cond b hc ht hf
theorem cT {c : Operand} {x y : Code} (ht : OkC P N w0 H0 kx x Q H fr kb) (hc : evO fr c = some (.bool true) := by kernel_rfl) : OkC P N w0 H0 kx (.cond c x y) Q H fr kb := Ok.condT hc ht
theorem cF {c : Operand} {x y : Code} (hf : OkC P N w0 H0 kx y Q H fr kb) (hc : evO fr c = some (.bool false) := by kernel_rfl) : OkC P N w0 H0 kx (.cond c x y) Q H fr kb := Ok.condF hc hf
theorem ef (j : Nat) {i : Nat} (hj : i + 1 = j) (h : Eff P N w0 H0 kx ops Q ops.toList[i]? H fr kb (fun a w => wpList P ops Q (ops.toList.drop j) a w)) : OkI P N w0 H0 kx ops Q i H fr kb := Ok.eff hj h
/-! ### Regions whose order is drawn -/
theorem qGo_l : ∀ {qs : List (Nat × OpH)} {fr : List (Nat × Value)} {l : List Bool} {s : QOut}, qGo P Hs N ops ds kbs qs fr l = some s → s.l = onL l qs
  | [], fr, l, s, h => by
    simp only [qGo, Option.some.injEq] at h
    subst h
    rfl
  | q :: r, fr, l, s, h => by
    simp only [qGo] at h
    split at h <;> try (cases h; done)
    rename_i o ho
    split at h <;> try (cases h; done)
    rename_i out hd hop
    split at h <;> try (cases h; done)
    rename_i s2 h2
    injection h with h
    subst h
    exact (qGo_l h2 : s2.l = onL (l.set q.1 true) r)
def tkL (P : Program) (Hs : Snap) (N : Nat) (ops : Array Oper) (ds : List Nat) (kbs : List Ent) (qs : List (Nat × OpH)) (fr : List (Nat × Value)) (l : List Bool) (keep : List Nat) : Option (List (Nat × Value) × List Nat × List Prop) :=
  match qGo P Hs N ops ds kbs qs fr l with
  | some s => some (restrF s.fr keep, s.E.map Prod.fst, s.ex)
  | none => none
def tkR (P : Program) (Hs : Snap) (N : Nat) (ops : Array Oper) (ds : List Nat) (kbs : List Ent) (qs : List (Nat × OpH)) (fr : List (Nat × Value)) (l : List Bool) (fr' : List (Nat × Value)) (ex : List Prop) : Option (List (Nat × Value) × List Nat × List Prop) :=
  match qGo P Hs N ops ds kbs qs fr l with
  | some s => some (fr', s.E.map Prod.snd, ex)
  | none => some (fr', [], ex)
theorem tx (fuel' : Nat) {fuel : Nat} {l : List Bool} {ex : List Prop} (qs : List (Nat × OpH)) (fr' : List (Nat × Value)) (hx : allP ex) (hf : fuel' + qs.length = fuel) (hk : OkD P N w0 H0 kx ops Q ds Hs kbs fuel' (onL l qs) H fr' kb)
    (h : tkL P Hs N ops ds kbs qs fr l (fr'.map Prod.fst) = tkR P Hs N ops ds kbs qs fr l fr' ex := by kernel_rfl) (hQ : PanicOk Q := by intro c a w d v h; cases d <;> exact h) : OkD P N w0 H0 kx ops Q ds Hs kbs fuel l H fr kb := by
  unfold tkL tkR at h
  cases hg : qGo P Hs N ops ds kbs qs fr l with
  | none => rw [hg] at h; cases h
  | some s =>
    rw [hg] at h
    simp only [Option.some.injEq, Prod.mk.injEq] at h
    rw [← hf]
    refine Ok.quiet hQ qs fr l s fuel' hg (allE_of h.2.1) (by rw [h.2.2]; exact hx) fun a w hs hm hS => ?_
    rw [qGo_l hg]
    exact hk a w (by rw [← h.1]; exact hs.sub fun p hp => restrF_mem hp) hm hS
theorem tk (fuel' : Nat) {fuel : Nat} {l : List Bool} (qs : List (Nat × OpH)) (fr' : List (Nat × Value)) (hf : fuel' + qs.length = fuel) (hk : OkD P N w0 H0 kx ops Q ds Hs kbs fuel' (onL l qs) H fr' kb)
    (h : tkL P Hs N ops ds kbs qs fr l (fr'.map Prod.fst) = tkR P Hs N ops ds kbs qs fr l fr' [] := by kernel_rfl) (hQ : PanicOk Q := by intro c a w d v h; cases d <;> exact h) : OkD P N w0 H0 kx ops Q ds Hs kbs fuel l H fr kb :=
  tx fuel' qs fr' ex0 hf hk h hQ
theorem st {id : Nat} (idx ds : List Nat) (n : Nat) (h : OkD P N w0 H0 kx ops Q ds H (selD kb idx) n (List.replicate n false) H fr kb) (hm : P.follows .mixedOrders = true := by kernel_rfl) (hn : ops.size = n := by kernel_rfl)
    (hs : sel kb idx = some (selD kb idx) := by kernel_rfl) : OkC P N w0 H0 kx (.region id ops true) Q H fr kb := Ok.start ds _ hm hn rfl hs h
theorem on (i fuel' : Nat) {fuel : Nat} {l : List Bool} (hf : fuel' + 1 = fuel)
    (h : Eff P N w0 H0 kx ops Q ops[i]? H fr kb (fun a w => SM w0.heap.size Hs kbs w ∧ wpAnyLast P .any ops Q (SM w0.heap.size Hs kbs) ds fuel' (l.set i true).toArray a w))
    (hr : readyB .any ops l.toArray (l.set i true).toArray i = true := by kernel_rfl) (hd : ds.contains i = false := by kernel_rfl) : OkD P N w0 H0 kx ops Q ds Hs kbs fuel l H fr kb := Ok.one hr hd hf h
theorem ol (i fuel' : Nat) {fuel : Nat} {l : List Bool} (hf : fuel' + 1 = fuel)
    (h : Eff P N w0 H0 kx ops Q ops[i]? H fr kb (fun a w => wpAnyLast P .any ops Q (SM w0.heap.size Hs kbs) ds fuel' (l.set i true).toArray a w))
    (hr : readyB .any ops l.toArray (l.set i true).toArray i = true := by kernel_rfl) (hd : ds.contains i = true := by kernel_rfl) : OkE P N w0 H0 kx ops Q ds Hs kbs fuel l H fr kb := Ok.last hr hd hf h
theorem o2 (i j fuel' : Nat) {fuel : Nat} {l : List Bool} (hf : fuel' + 1 = fuel)
    (h1 : Eff P N w0 H0 kx ops Q ops[i]? H fr kb (fun a w => SM w0.heap.size Hs kbs w ∧ wpAnyLast P .any ops Q (SM w0.heap.size Hs kbs) ds fuel' (l.set i true).toArray a w))
    (h2 : Eff P N w0 H0 kx ops Q ops[j]? H fr kb (fun a w => SM w0.heap.size Hs kbs w ∧ wpAnyLast P .any ops Q (SM w0.heap.size Hs kbs) ds fuel' (l.set j true).toArray a w))
    (hr : (Region.ready .any ops l.toArray == [i, j] && l.toArray.setIfInBounds i true == (l.set i true).toArray && l.toArray.setIfInBounds j true == (l.set j true).toArray) = true := by kernel_rfl) (hdi : ds.contains i = false := by kernel_rfl) (hdj : ds.contains j = false := by kernel_rfl) :
    OkD P N w0 H0 kx ops Q ds Hs kbs fuel l H fr kb := Ok.two hr hdi hdj hf h1 h2
theorem o3 (i j k fuel' : Nat) {fuel : Nat} {l : List Bool} (hf : fuel' + 1 = fuel)
    (h1 : Eff P N w0 H0 kx ops Q ops[i]? H fr kb (fun a w => SM w0.heap.size Hs kbs w ∧ wpAnyLast P .any ops Q (SM w0.heap.size Hs kbs) ds fuel' (l.set i true).toArray a w))
    (h2 : Eff P N w0 H0 kx ops Q ops[j]? H fr kb (fun a w => SM w0.heap.size Hs kbs w ∧ wpAnyLast P .any ops Q (SM w0.heap.size Hs kbs) ds fuel' (l.set j true).toArray a w))
    (h3 : Eff P N w0 H0 kx ops Q ops[k]? H fr kb (fun a w => SM w0.heap.size Hs kbs w ∧ wpAnyLast P .any ops Q (SM w0.heap.size Hs kbs) ds fuel' (l.set k true).toArray a w))
    (hr : (Region.ready .any ops l.toArray == [i, j, k] && l.toArray.setIfInBounds i true == (l.set i true).toArray && l.toArray.setIfInBounds j true == (l.set j true).toArray && l.toArray.setIfInBounds k true == (l.set k true).toArray) = true := by kernel_rfl)
    (hdi : ds.contains i = false := by kernel_rfl) (hdj : ds.contains j = false := by kernel_rfl) (hdk : ds.contains k = false := by kernel_rfl) :
    OkD P N w0 H0 kx ops Q ds Hs kbs fuel l H fr kb := Ok.three hr hdi hdj hdk hf h1 h2 h3
theorem ws {fuel : Nat} {l : List Bool} (idx : List Nat) (hle : SLe Hs H) (h : OkD P N w0 H0 kx ops Q ds Hs kbs fuel l H fr kb) (hs : sel kb idx = some kbs := by kernel_rfl) :
    Ok N w0 H0 kx H fr kb (fun a w => SM w0.heap.size Hs kbs w ∧ wpAnyLast P .any ops Q (SM w0.heap.size Hs kbs) ds fuel l.toArray a w) := Ok.withS hle hs h
theorem dn {fuel : Nat} {l : List Bool} {K : Act → World → Prop} (h : Ok N w0 H0 kx H fr kb K) (hr : (Region.ready .any ops l.toArray == []) = true := by kernel_rfl) : OkD P N w0 H0 kx ops (Exit.then K Q) ds Hs kbs fuel l H fr kb := Ok.done hr (Ok.thenN h)
theorem dnE {fuel : Nat} {l : List Bool} {K : Act → World → Prop} (h : Ok N w0 H0 kx H fr kb K) (hr : (Region.ready .any ops l.toArray == []) = true := by kernel_rfl) : OkE P N w0 H0 kx ops (Exit.then K Q) ds Hs kbs fuel l H fr kb := Ok.doneE hr (Ok.thenN h)
/-! ### One operation -/
def effL (P : Program) (H : Snap) (N : Nat) (ops : Array Oper) (o : Option Oper) (fr : List (Nat × Value)) (kb : List Ent) (nb : Nat) (hh : OpH) (keep : List Nat) : Option (List (Nat × Value) × List Ent × List Nat × List Prop) :=
  match o with
  | some o' => match wantG ops fr o' with
    | some true => match opGo P H N ops fr kb nb o' hh with
      | some s => some (restrF s.fr keep, s.kb, s.E.map Prod.fst, s.ex)
      | none => none
    | _ => none
  | none => none
def effR (P : Program) (H : Snap) (N : Nat) (ops : Array Oper) (o : Option Oper) (fr : List (Nat × Value)) (kb : List Ent) (nb : Nat) (hh : OpH) (fr' : List (Nat × Value)) (kb' : List Ent) (ex : List Prop) : Option (List (Nat × Value) × List Ent × List Nat × List Prop) :=
  match o with
  | some o' => match opGo P H N ops fr kb nb o' hh with
      | some s => some (fr', kb', s.E.map Prod.snd, ex)
      | none => some (fr', kb', [], ex)
  | none => some (fr', kb', [], ex)
theorem e5 {G : Act → World → Prop} {o : Option Oper} {ex : Nat → List Prop} (hh : OpH) (fr' : Nat → List (Nat × Value)) (kb' : Nat → List Ent) (hx : ∀ b, allP (ex b)) (hk : ∀ b, Ok N w0 H0 kx H (fr' b) (kb' b) G)
    (h : ∀ b, effL P H N ops o fr kb b hh ((fr' b).map Prod.fst) = effR P H N ops o fr kb b hh (fr' b) (kb' b) (ex b) := by intro _; kernel_rfl) : Eff P N w0 H0 kx ops Q o H fr kb G := by
  cases o with
  | none => have := h 0; cases this
  | some o' =>
    refine ⟨o', rfl, fun a w hs hm => ?_⟩
    have h1 := h w.heap.size
    simp only [effL, effR] at h1
    split at h1
    · rename_i hw
      cases hop : opGo P H N ops fr kb w.heap.size o' hh with
      | none => rw [hop] at h1; cases h1
      | some s =>
        rw [hop] at h1
        simp only [Option.some.injEq, Prod.mk.injEq] at h1
        rcases opGo_run hs hm hop (allE_of h1.2.2.1) (by rw [h1.2.2.2]; exact hx _) with ⟨h2, _⟩ | ⟨h2, a', w', a1, a2, a3, a4⟩
        · rw [wantG_spec hw hs] at h2
          cases h2
        · refine ⟨h2, fun K hK => a4 K Q (hK _ _ (hk w.heap.size a' w' (by rw [← h1.1]; exact a1.sub fun p hp => restrF_mem hp) (by rw [← h1.2.1]; exact a2)))⟩
    · split at h1 <;> cases h1
theorem e4 {G : Act → World → Prop} {o : Option Oper} (hh : OpH) (fr' : Nat → List (Nat × Value)) (kb' : Nat → List Ent) (hk : ∀ b, Ok N w0 H0 kx H (fr' b) (kb' b) G)
    (h : ∀ b, effL P H N ops o fr kb b hh ((fr' b).map Prod.fst) = effR P H N ops o fr kb b hh (fr' b) (kb' b) [] := by intro _; kernel_rfl) : Eff P N w0 H0 kx ops Q o H fr kb G := e5 hh fr' kb' (fun _ => ex0) hk h
theorem e3 {G : Act → World → Prop} {o : Option Oper} {ex : List Prop} (hh : OpH) (fr' : List (Nat × Value)) (kb' : List Ent) (hx : allP ex) (hk : Ok N w0 H0 kx H fr' kb' G)
    (h : ∀ b, effL P H N ops o fr kb b hh (fr'.map Prod.fst) = effR P H N ops o fr kb b hh fr' kb' ex := by intro _; kernel_rfl) : Eff P N w0 H0 kx ops Q o H fr kb G := e5 hh (fun _ => fr') (fun _ => kb') (fun _ => hx) (fun _ => hk) h
theorem e2 {G : Act → World → Prop} {o : Option Oper} {ex : List Prop} (hh : OpH) (fr' : List (Nat × Value)) (hx : allP ex) (hk : Ok N w0 H0 kx H fr' kb G)
    (h : ∀ b, effL P H N ops o fr kb b hh (fr'.map Prod.fst) = effR P H N ops o fr kb b hh fr' kb ex := by intro _; kernel_rfl) : Eff P N w0 H0 kx ops Q o H fr kb G := e3 hh fr' kb hx hk h
theorem e1 {G : Act → World → Prop} {o : Option Oper} (hh : OpH) (fr' : List (Nat × Value)) (kb' : List Ent) (hk : Ok N w0 H0 kx H fr' kb' G)
    (h : ∀ b, effL P H N ops o fr kb b hh (fr'.map Prod.fst) = effR P H N ops o fr kb b hh fr' kb' [] := by intro _; kernel_rfl) : Eff P N w0 H0 kx ops Q o H fr kb G := e3 hh fr' kb' ex0 hk h
theorem e0 {G : Act → World → Prop} {o : Option Oper} (hh : OpH) (fr' : List (Nat × Value)) (hk : Ok N w0 H0 kx H fr' kb G)
    (h : ∀ b, effL P H N ops o fr kb b hh (fr'.map Prod.fst) = effR P H N ops o fr kb b hh fr' kb [] := by intro _; kernel_rfl) : Eff P N w0 H0 kx ops Q o H fr kb G := e1 hh fr' kb hk h
/-- A call that is handed nothing; what it leaves of its own is let go of. -/
theorem ca {G : Act → World → Prop} {o : Option Oper} {f : Nat} {args : List Value} (d : Option Tmp) {Post : Value → Snap → List Ent → Prop} (hspec : Does P f args H [] Post)
    (h : ∀ v H' kp', SLe H H' → Post v H' kp' → Ok N w0 H0 kx H' (putF fr d v) kb G) (hc : callOf P N ops fr o.toList = some (f, args, d) := by kernel_rfl) : Eff P N w0 H0 kx ops Q o H fr kb G := Eff.call0 hc hspec fun v H' kp' h1 h2 => Ok.dropL (h v H' kp' h1 h2)
/-- A call that is handed nothing. -/
theorem cb {G : Act → World → Prop} {o : Option Oper} {f : Nat} {args : List Value} (d : Option Tmp) {Post : Value → Snap → List Ent → Prop} (hspec : Does P f args H [] Post)
    (h : ∀ v H' kp', SLe H H' → Post v H' kp' → Ok N w0 H0 kx H' (putF fr d v) (kp' ++ kb) G) (hc : callOf P N ops fr o.toList = some (f, args, d) := by kernel_rfl) : Eff P N w0 H0 kx ops Q o H fr kb G := Eff.call0 hc hspec h
/-! ### Rows of the call's own that are cut and read -/
theorem Ok.rowCap {G : Act → World → Prop} (i : Nat) {A : Option Addr} {cap n sz e : Nat} {xs : List Value} (hi : kb[i]? = some (.row (.slice A n cap) n sz e xs))
    (h : n ≤ cap ∧ cap < 9223372036854775808 → Ok N w0 H0 kx H fr kb G) : Ok N w0 H0 kx H fr kb G := fun a w hs hm => by
  have hl : w.ownsRow w0.heap.size e sz (.slice A n cap) n xs := (hm.ents _ (List.mem_of_getElem? (atL hi))).1
  rcases hl.2 with ⟨hv, h0⟩ | ⟨g, c, cur, hv, _, _, h1, h2, _⟩
  · injection hv with hA hn hc
    exact h (by omega) a w hs hm
  · injection hv with hA hn hc
    simp only [maxLen] at h2
    exact h (by omega) a w hs hm
theorem rowAt {g n cap m : Nat} (j : Nat) : RowAt (.slice (some ⟨g, 0, none⟩) n cap) (((addrOf (some ⟨g, 0, none⟩)).add m).add j) (m + j) :=
  ⟨g, n, cap, rfl, by rw [add_add, addrOf, Option.getD_some, addr_add, Nat.zero_add]⟩
theorem rowAt0 {g n cap m : Nat} : RowAt (.slice (some ⟨g, 0, none⟩) n cap) ((addrOf (some ⟨g, 0, none⟩)).add m) m :=
  ⟨g, n, cap, rfl, by rw [addrOf, Option.getD_some, addr_add, Nat.zero_add]⟩
theorem Elems.atZ {n : Nat} {el : List Sh} {xs : List Value} (h : Elems H el n xs) (z : Int) (h0 : 0 ≤ z) (h1 : z < (n : Int)) : ∃ cs, WfL H el cs ∧ ∀ j u, cs[j]? = some u → xs[z.toNat * el.length + j]? = some u := h.at_ z.toNat (by omega)
/-- An append of the tail of a row of the call's own. -/
theorem Eff.appendR {G : Act → World → Prop} {o : Option Oper} (i : Nat) {v : Value} {n sz e : Nat} {xs : List Value} (hi : kb[i]? = some (.row v n sz e xs)) {t : Nat} {d : Option Tmp} (j : Nat) {A : Option Addr} {m cap l : Nat} {ys : List Value} (hj : kb[j]? = some (.row (.slice A m cap) m sz e ys)) (hl : l ≤ m)
    (ho : appOf N ops fr o = some (v, .slice (if cap = l then A else A.map (·.add (l * sz))) (m - l) (cap - l), t, t, d)) (total : Nat) (he : elemOk P t e sz total = true) (ht : n + (m - l) ≤ total) (h63 : Nat.ble total 9223372036854775807 = true) {el : List Sh} (hel : el.length = sz) (hs : Elems H el m ys) (hx : Elems H el n xs)
    (h : ∀ A' cap' zs, Elems H el (n + (m - l)) zs → Ok N w0 H0 kx H (putF fr d (.slice A' (n + (m - l)) cap')) (kb.set i (.row (.slice A' (n + (m - l)) cap') (n + (m - l)) sz e zs)) G) : Eff P N w0 H0 kx ops Q o H fr kb G := by
  obtain ⟨o', s, x, rfl, hd, hdk, hw, hop, hsv, hxv⟩ := appOf_spec ho
  obtain ⟨hty, inf, z, hinf, hz, hsz, hzs, hsp, hb⟩ := elemOk_spec he
  refine ⟨o', rfl, fun a w hsl hm => ⟨wantG_spec hw hsl, fun K hK => ?_⟩⟩
  have hown : w.ownsRow w0.heap.size e sz v n xs := (hm.ents _ (List.mem_append_left kx (List.mem_of_getElem? hi))).1
  have hsrc : w.ownsRow w0.heap.size e sz (.slice A m cap) m ys := (hm.ents _ (List.mem_append_left kx (List.mem_of_getElem? hj))).1
  have htail : Elems H el (m - l) (ys.drop (l * el.length)) := hs.drop l hl
  have key : ∃ v' w' zs, (Builtin.append_ #[t, t] o'.type #[v, .slice (if cap = l then A else A.map (·.add (l * sz))) (m - l) (cap - l)]).run P w = .ok v' w' ∧ w'.ownsRow w0.heap.size e sz v' (n + (m - l)) zs ∧ w.grownBy w' v.ownBlock ∧ (v'.ownBlock = v.ownBlock ∨ v'.ownBlock = some w.heap.size) ∧ Elems H el (n + (m - l)) zs := by
    rcases hsrc.2 with ⟨hv, h0⟩ | ⟨g, c, cur, hv, _, hh, h1, _, _, h4⟩
    · injection hv with hA hm0 hc
      subst hA; subst hm0; subst hc
      have hl0 : l = 0 := by omega
      subst hl0
      refine ⟨v, w, xs, ?_, hown, ⟨rfl, rfl, rfl, Nat.le_refl _, fun _ _ _ => rfl⟩, .inl rfl, hx⟩
      rcases hown.2 with ⟨rfl, rfl⟩ | ⟨g, cap, cur, rfl, _, _, hnc, _⟩
      · simp [Builtin.append_, run_underlying hty, sizeOf, typeInfo, hinf, Builtin.lenOf, Builtin.firstCells]
      · simp [Builtin.append_, run_underlying hty, sizeOf, typeInfo, hinf, Builtin.lenOf, Builtin.firstCells, hnc, storeCells]
    · injection hv with hA hm0 hc
      subst hA; subst hc
      have hlen : (ys.drop (l * el.length)).length = (m - l) * sz := by rw [htail.length, hel]
      have hone : ∀ u ∈ ys.drop (l * el.length), u.oneCell' = true := htail.one
      by_cases hcl : cap = l
      · rw [if_pos hcl]
        obtain ⟨v', w', hrun, h3, h5, h6, h7⟩ := run_append_own_at (P := P) w w0.heap.size t o'.type e inf z sz inf.bytes hty hinf hz hsz rfl hzs hsp v n xs hown ⟨g, 0, none⟩ (m - l) (cap - l) (ys.drop (l * el.length)) hlen
          (fun j u hj => by
            have := (List.getElem?_eq_some_iff.1 hj).1
            rw [hlen, show m - l = 0 by omega, Nat.zero_mul] at this
            omega) hone (by have := Nat.le_of_ble_eq_true h63; simp only [maxLen]; omega) (Nat.le_trans (Nat.mul_le_mul_right _ ht) hb) hm.below.size
        exact ⟨v', w', _, hrun, h3, h5, h7, hx.app htail⟩
      · rw [if_neg hcl]
        have e1 : (some (⟨g, 0, none⟩ : Addr)).map (·.add (l * sz)) = some ⟨g, l * sz, none⟩ := by rw [Option.map_some, addr_add, Nat.zero_add]
        rw [e1]
        obtain ⟨v', w', hrun, h3, h5, h6, h7⟩ := run_append_own_at (P := P) w w0.heap.size t o'.type e inf z sz inf.bytes hty hinf hz hsz rfl hzs hsp v n xs hown ⟨g, l * sz, none⟩ (m - l) (cap - l) (ys.drop (l * el.length)) hlen
          (fun j u hj => by
            rw [List.getElem?_drop, hel] at hj
            have h8 := hsrc.cells (g := g) rfl (l * sz + j) u hj
            rw [addr_add, Nat.zero_add] at h8
            rw [addr_add]
            exact h8) hone (by have := Nat.le_of_ble_eq_true h63; simp only [maxLen]; omega) (Nat.le_trans (Nat.mul_le_mul_right _ ht) hb) hm.below.size
        exact ⟨v', w', _, hrun, h3, h5, h7, hx.app htail⟩
  obtain ⟨v', w', zs, hrun, h2, h3, h5, h6⟩ := key
  have hsh : ∃ A' cap', v' = .slice A' (n + (m - l)) cap' := by
    rcases h2.2 with ⟨hv, hn⟩ | ⟨g, cap, cur, hv, _⟩
    · exact ⟨none, 0, by rw [hv, hn]⟩
    · exact ⟨_, _, hv⟩
  obtain ⟨A', cap', rfl⟩ := hsh
  unfold Oper.wp execOp
  simp only [hop, resolve, invoke, builtin, Sem.run_bind, Sem.run_pure, Result.andThen_ok, List.map_toArray, List.map_cons, List.map_nil, hsl.ev hsv, hsl.ev hxv, hrun]
  subst hd
  refine hK _ _ (h A' cap' zs h6 _ _ (hsl.put (dstOk_spec hdk) _) ?_)
  exact hm.regrowL i hi (e' := .row (.slice A' (n + (m - l)) cap') (n + (m - l)) sz e zs) h3 h2 h5
end
end Go.Proofs.YtdifenljfklolaaGreatDoor.Sx
