/- Predicates in memory: a tree and the cells that hold it; lists of elements. -/
import Derived.Test.YtdifenljfklolaaGreatDoorSxH
set_option linter.unusedVariables false
set_option linter.unusedSimpArgs false
namespace Go.Proofs.YtdifenljfklolaaGreatDoor.Sx
open Go Go.RowKit
abbrev elV : List Sh := [.bool, .int .i64, .str]
/-- A slice's elements, by a list. -/
def LstIs (H : Snap) (el : List Sh) (A : Option Addr) (n : Nat) (l : List (List Value)) : Prop :=
  l.length = n ∧ n < 9223372036854775808 ∧ ∀ i cs, l[i]? = some cs → A.isSome = true ∧ WfL H el cs ∧ ∀ j u, cs[j]? = some u → HasCell H (((addrOf A).add (i * el.length)).add j) u
theorem LstIs.mono {H H' : Snap} {el : List Sh} {A : Option Addr} {n : Nat} {l : List (List Value)} (hle : SLe H H') (h : LstIs H el A n l) : LstIs H' el A n l :=
  ⟨h.1, h.2.1, fun i cs hi => ⟨(h.2.2 i cs hi).1, WfL.mono hle el cs (h.2.2 i cs hi).2.1, fun j u hj => ((h.2.2 i cs hi).2.2 j u hj).mono hle⟩⟩
theorem LstIs.wf {H : Snap} {el : List Sh} {A : Option Addr} {n : Nat} {l : List (List Value)} (h : LstIs H el A n l) : WfS H el A n :=
  ⟨h.2.1, fun i hi => by
    obtain ⟨cs, hcs⟩ : ∃ cs, l[i]? = some cs := ⟨_, List.getElem?_eq_getElem (by rw [h.1]; exact hi)⟩
    exact ⟨(h.2.2 i cs hcs).1, cs, (h.2.2 i cs hcs).2⟩⟩
theorem LstIs.nil (H : Snap) (el : List Sh) (A : Option Addr) : LstIs H el A 0 [] := ⟨rfl, by decide, fun i cs h => by simp at h⟩
theorem wfS_list {H : Snap} {el : List Sh} {A : Option Addr} : ∀ {n : Nat}, (∀ i, i < n → A.isSome = true ∧ ∃ cs, WfL H el cs ∧ ∀ j u, cs[j]? = some u → HasCell H (((addrOf A).add (i * el.length)).add j) u) →
    ∃ l : List (List Value), l.length = n ∧ ∀ i cs, l[i]? = some cs → A.isSome = true ∧ WfL H el cs ∧ ∀ j u, cs[j]? = some u → HasCell H (((addrOf A).add (i * el.length)).add j) u
  | 0, _ => ⟨[], rfl, fun i cs h => by simp at h⟩
  | n + 1, h => by
    obtain ⟨l, h1, h2⟩ := wfS_list (n := n) fun i hi => h i (by omega)
    obtain ⟨h3, cs, h4, h5⟩ := h n (Nat.lt_succ_self n)
    refine ⟨l ++ [cs], by simp [h1], fun i ds hi => ?_⟩
    rcases Nat.lt_or_ge i l.length with hlt | hge
    · rw [List.getElem?_append_left hlt] at hi
      exact h2 i ds hi
    · rw [List.getElem?_append_right hge] at hi
      have hi0 : i - l.length = 0 := by
        have := (List.getElem?_eq_some_iff.1 hi).1
        simp at this
        omega
      rw [hi0] at hi
      injection hi with hi
      subst hi
      have : i = n := by omega
      subst this
      exact ⟨h3, h4, h5⟩
theorem WfS.lst {H : Snap} {el : List Sh} {A : Option Addr} {n : Nat} (h : WfS H el A n) : ∃ l, LstIs H el A n l := by
  obtain ⟨l, h1, h2⟩ := wfS_list h.2
  exact ⟨l, h1, h.1, h2⟩
theorem HasCell.uniq {H : Snap} {a : Addr} {u v : Value} (h : HasCell H a u) (k : HasCell H a v) : u = v := by
  obtain ⟨cs, t, fr, h1, _, h2⟩ := h
  obtain ⟨cs', t', fr', k1, _, k2⟩ := k
  rw [h1] at k1
  injection k1 with k1
  injection k1 with k1
  subst k1
  rw [h2] at k2
  injection k2

mutual
inductive PT where
  | node (op id lo hi : Int) (set : List (List Value)) (text : ByteArray) (kids : PTs)
inductive PTs where
  | nil
  | cons (t : PT) (r : PTs)
end
def PTs.len : PTs → Nat
  | .nil => 0
  | .cons _ r => r.len + 1
def PTs.snoc : PTs → PT → PTs
  | .nil, t => .cons t .nil
  | .cons x r, t => .cons x (r.snoc t)
mutual
def PT.depth : PT → Nat
  | .node _ _ _ _ _ _ k => k.depth + 1
def PTs.depth : PTs → Nat
  | .nil => 0
  | .cons t r => max t.depth r.depth
end
mutual
def PredIs (H : Snap) : PT → List Value → Prop
  | .node op id lo hi set text kids, cs => ∃ A n c K m kc, cs = [.int .i64 op, .int .i64 id, .int .i64 lo, .int .i64 hi, .slice A n c, .string text, .slice K m kc] ∧ LstIs H elV A n set ∧ text.size < 9223372036854775808 ∧ (m = kids.len ∧ m < 9223372036854775808 ∧ KidsAt H kids K 0)
def KidsAt (H : Snap) : PTs → Option Addr → Nat → Prop
  | .nil, _, _ => True
  | .cons t r, K, i => K.isSome = true ∧ (∃ cs, PredIs H t cs ∧ ∀ j u, cs[j]? = some u → HasCell H (((addrOf K).add (i * 7)).add j) u) ∧ KidsAt H r K (i + 1)
end
def KidsIs (H : Snap) (K : Option Addr) (m : Nat) (ks : PTs) : Prop := m = ks.len ∧ m < 9223372036854775808 ∧ KidsAt H ks K 0
mutual
theorem PredIs.mono {H H' : Snap} (hle : SLe H H') : ∀ {t : PT} {cs : List Value}, PredIs H t cs → PredIs H' t cs
  | .node op id lo hi set text kids, cs, h => by
    unfold PredIs at h ⊢
    obtain ⟨A, n, c, K, m, kc, h1, h2, h3, h4, h5, h6⟩ := h
    exact ⟨A, n, c, K, m, kc, h1, h2.mono hle, h3, h4, h5, KidsAt.mono hle h6⟩
theorem KidsAt.mono {H H' : Snap} (hle : SLe H H') : ∀ {ks : PTs} {K : Option Addr} {i : Nat}, KidsAt H ks K i → KidsAt H' ks K i
  | .nil, _, _, _ => by unfold KidsAt; trivial
  | .cons t r, K, i, h => by
    unfold KidsAt at h ⊢
    obtain ⟨h1, ⟨cs, h2, h3⟩, h4⟩ := h
    exact ⟨h1, ⟨cs, PredIs.mono hle h2, fun j u hj => (h3 j u hj).mono hle⟩, KidsAt.mono hle h4⟩
end
theorem KidsIs.mono {H H' : Snap} {K : Option Addr} {m : Nat} {ks : PTs} (hle : SLe H H') (h : KidsIs H K m ks) : KidsIs H' K m ks := ⟨h.1, h.2.1, h.2.2.mono hle⟩
section
variable {H : Snap}
theorem KidsAt.nil (K : Option Addr) (i : Nat) : KidsAt H .nil K i := by unfold KidsAt; trivial
theorem KidsIs.nil (K : Option Addr) : KidsIs H K 0 .nil := ⟨rfl, by decide, KidsAt.nil _ _⟩
theorem KidsAt.cons {t : PT} {r : PTs} {K : Option Addr} {i : Nat} (h : KidsAt H (.cons t r) K i) : K.isSome = true ∧ (∃ cs, PredIs H t cs ∧ ∀ j u, cs[j]? = some u → HasCell H (((addrOf K).add (i * 7)).add j) u) ∧ KidsAt H r K (i + 1) := by
  unfold KidsAt at h; exact h
theorem KidsAt.cast {ks : PTs} {K : Option Addr} {i j : Nat} (h : KidsAt H ks K i) (e : i = j) : KidsAt H ks K j := e ▸ h
theorem PredIs.open_ {op id lo hi : Int} {set : List (List Value)} {text : ByteArray} {kids : PTs} {cs : List Value} (h : PredIs H (.node op id lo hi set text kids) cs) :
    ∃ A n c K m kc, cs = [.int .i64 op, .int .i64 id, .int .i64 lo, .int .i64 hi, .slice A n c, .string text, .slice K m kc] ∧ LstIs H elV A n set ∧ text.size < 9223372036854775808 ∧ KidsIs H K m kids := by
  unfold PredIs at h; exact h
theorem PredIs.mk {op id lo hi : Int} {set : List (List Value)} {text : ByteArray} {kids : PTs} {A K : Option Addr} {n m c kc : Nat} (h1 : LstIs H elV A n set) (h2 : text.size < 9223372036854775808) (h3 : KidsIs H K m kids) :
    PredIs H (.node op id lo hi set text kids) [.int .i64 op, .int .i64 id, .int .i64 lo, .int .i64 hi, .slice A n c, .string text, .slice K m kc] := by
  unfold PredIs; exact ⟨A, n, c, K, m, kc, rfl, h1, h2, h3⟩
theorem PTs.open_ {ks : PTs} (h : 0 < ks.len) : ∃ t r, ks = .cons t r := by
  cases ks with
  | nil => cases h
  | cons t r => exact ⟨t, r, rfl⟩
theorem PTs.node_ (t : PT) : ∃ op id lo hi set text kids, t = .node op id lo hi set text kids := by
  cases t with
  | node op id lo hi set text kids => exact ⟨op, id, lo, hi, set, text, kids, rfl⟩
theorem PTs.len_cons (t : PT) (r : PTs) : (PTs.cons t r).len = r.len + 1 := rfl
theorem PTs.depth1 (op id lo hi : Int) (set : List (List Value)) (text : ByteArray) (kids r : PTs) : kids.depth + 1 ≤ (PTs.cons (.node op id lo hi set text kids) r).depth := by
  simp only [PTs.depth, PT.depth]
  exact Nat.le_max_left _ _
theorem PTs.depth2 (t : PT) (r : PTs) : r.depth ≤ (PTs.cons t r).depth := by
  simp only [PTs.depth]
  exact Nat.le_max_right _ _
theorem PTs.len_snoc : ∀ (ks : PTs) (t : PT), (ks.snoc t).len = ks.len + 1
  | .nil, t => rfl
  | .cons x r, t => by simp [PTs.snoc, PTs.len, PTs.len_snoc r t]
/-- The cells of a row of predicates. -/
def RowPs (H : Snap) : PTs → List Value → Prop
  | .nil, xs => xs = []
  | .cons t r, xs => ∃ cs ys, xs = cs ++ ys ∧ PredIs H t cs ∧ RowPs H r ys
theorem RowPs.mono {H' : Snap} (hle : SLe H H') : ∀ {ks : PTs} {xs : List Value}, RowPs H ks xs → RowPs H' ks xs
  | .nil, xs, h => h
  | .cons t r, xs, h => by
    obtain ⟨cs, ys, rfl, h1, h2⟩ := h
    exact ⟨cs, ys, rfl, h1.mono hle, RowPs.mono hle h2⟩
theorem RowPs.nil : RowPs H .nil [] := rfl
theorem RowPs.snoc : ∀ {ks : PTs} {xs : List Value} {t : PT} {cs : List Value}, RowPs H ks xs → PredIs H t cs → RowPs H (ks.snoc t) (xs ++ cs)
  | .nil, xs, t, cs, h, h2 => by
    rw [show xs = [] from h]
    exact ⟨cs, [], by simp, h2, rfl⟩
  | .cons x r, xs, t, cs, h, h2 => by
    obtain ⟨ds, ys, rfl, h1, h3⟩ := h
    exact ⟨ds, ys ++ cs, by simp, h1, RowPs.snoc h3 h2⟩
theorem RowPs.lit {t : PT} {cs : List Value} (h : PredIs H t cs) : RowPs H (.cons t .nil) cs := ⟨cs, [], by simp, h, rfl⟩
theorem PTs.snoc_len {n : Nat} {ks : PTs} (t : PT) (h : n = ks.len) : n + 1 = (ks.snoc t).len := by rw [PTs.len_snoc, h]
theorem PredIs.length {t : PT} {cs : List Value} (h : PredIs H t cs) : cs.length = 7 := by
  obtain ⟨op, id, lo, hi, set, text, kids, rfl⟩ := PTs.node_ t
  obtain ⟨A, n, c, K, m, kc, rfl, _⟩ := h.open_
  rfl
theorem RowPs.at_ {g : Nat} {zs : List Value} (hp : Pre H g zs) : ∀ {ks : PTs} {xs : List Value} (i : Nat), RowPs H ks xs → zs.drop (i * 7) = xs → KidsAt H ks (some ⟨g, 0, none⟩) i
  | .nil, xs, i, h, _ => KidsAt.nil _ _
  | .cons t r, xs, i, h, hz => by
    obtain ⟨cs, ys, rfl, h1, h2⟩ := h
    unfold KidsAt
    have hl := h1.length
    refine ⟨rfl, ⟨cs, h1, fun j u hj => ?_⟩, RowPs.at_ hp (i + 1) h2 ?_⟩
    · have hj' := (List.getElem?_eq_some_iff.1 hj).1
      have h3 : zs[i * 7 + j]? = some u := by
        rw [← List.getElem?_drop, hz, List.getElem?_append_left hj']
        exact hj
      have h4 := hp.cell _ h3
      have e : (((addrOf (some ⟨g, 0, none⟩)).add (i * 7)).add j) = ⟨g, i * 7 + j, none⟩ := by
        rw [add_add, addrOf, Option.getD_some, addr_add, Nat.zero_add]
      rw [e]
      exact h4
    · rw [Nat.succ_mul, ← List.drop_drop, hz]
      have : 7 = cs.length := hl.symm
      rw [this, List.drop_left]
theorem KidsIs.of_pre {g : Nat} {xs : List Value} {ks : PTs} {n : Nat} (hp : Pre H g xs) (h : RowPs H ks xs) (hn : n = ks.len) (hb : n < 9223372036854775808) : KidsIs H (some ⟨g, 0, none⟩) n ks := ⟨hn, hb, RowPs.at_ hp 0 h (by simp)⟩
theorem RowPs.one : ∀ {ks : PTs} {xs : List Value}, RowPs H ks xs → ∀ u ∈ xs, u.oneCell' = true
  | .nil, xs, h, u, hu => by rw [show xs = [] from h] at hu; cases hu
  | .cons t r, xs, h, u, hu => by
    obtain ⟨cs, ys, rfl, h1, h2⟩ := h
    rcases List.mem_append.1 hu with hu | hu
    · obtain ⟨op, id, lo, hi, set, text, kids, rfl⟩ := PTs.node_ t
      obtain ⟨A, n, c, K, m, kc, rfl, _⟩ := h1.open_
      simp only [List.mem_cons, List.not_mem_nil, or_false] at hu
      rcases hu with rfl | rfl | rfl | rfl | rfl | rfl | rfl <;> rfl
    · exact RowPs.one h2 u hu
variable {P : Program} {N : Nat} {w0 : World} {H0 : Snap} {kx : List Ent} {fr : List (Nat × Value)} {kb : List Ent}
/-- A row of predicates handed over for good. -/
theorem Ok.pubK {G : Act → World → Prop} (i : Nat) {A : Option Addr} {cap n sz e : Nat} {xs : List Value} (hi : kb[i]? = some (.row (.slice A n cap) n sz e xs)) {ks : PTs} (hx : RowPs H ks xs) (hk : n = ks.len) (hn : n < 9223372036854775808) (kb' : List Ent) (he : kb.eraseIdx i = kb')
    (h : ∀ H', SLe H H' → KidsIs H' A n ks → Ok N w0 H0 kx H' fr kb' G) : Ok N w0 H0 kx H fr kb G :=
  Ok.pubRow i hi kb' he fun H' hle hb => h H' hle (by
    obtain ⟨hlen, ⟨hv, h0⟩ | ⟨g', cap', cur, hv, hH, _, _, _, htake⟩⟩ := hb
    · subst h0
      cases ks with
      | nil => exact KidsIs.nil _
      | cons t r => cases hk
    · injection hv with hv
      subst hv
      exact KidsIs.of_pre ⟨cur, e, _, hH, by rw [hlen]; exact htake⟩ (hx.mono hle) hk hn)
end
end Go.Proofs.YtdifenljfklolaaGreatDoor.Sx
