/- Forms: what is known of a value that is not known: its kind; of a slice: that its elements lie in memory that stays, each of its form. Plain theorems over any program. -/
import Derived.Test.YtdifenljfklolaaGreatDoorSxE
set_option linter.unusedVariables false
set_option linter.unusedSimpArgs false
namespace Go.Proofs.YtdifenljfklolaaGreatDoor.Sx
open Go Go.RowKit

inductive Sh where
  | int (k : IntKind)
  | bool
  | str
  | slc (el : List Sh)
mutual
def WfV (H : Snap) : Sh → Value → Prop
  | .int k, v => ∃ n, v = .int k n
  | .bool, v => ∃ b, v = .bool b
  | .str, v => ∃ s, v = .string s ∧ s.size < 9223372036854775808
  | .slc el, v => ∃ A n cap, v = .slice A n cap ∧ n < 9223372036854775808 ∧ ∀ i, i < n → A.isSome = true ∧ ∃ cs, WfL H el cs ∧ ∀ j u, cs[j]? = some u → HasCell H (((addrOf A).add (i * el.length)).add j) u
def WfL (H : Snap) : List Sh → List Value → Prop
  | [], cs => cs = []
  | s :: r, cs => ∃ v vs, cs = v :: vs ∧ WfV H s v ∧ WfL H r vs
end
/-- A slice's elements. -/
def WfS (H : Snap) (el : List Sh) (A : Option Addr) (n : Nat) : Prop := n < 9223372036854775808 ∧ ∀ i, i < n → A.isSome = true ∧ ∃ cs, WfL H el cs ∧ ∀ j u, cs[j]? = some u → HasCell H (((addrOf A).add (i * el.length)).add j) u
theorem HasCell.mono {H H' : Snap} {a : Addr} {v : Value} (hle : SLe H H') (h : HasCell H a v) : HasCell H' a v := by
  obtain ⟨cs, t, fr, h1, h2⟩ := h
  exact ⟨cs, t, fr, hle _ _ h1, h2⟩
mutual
theorem WfV.mono {H H' : Snap} (hle : SLe H H') : ∀ (s : Sh) (v : Value), WfV H s v → WfV H' s v
  | .int k, v, h => by unfold WfV at h ⊢; exact h
  | .bool, v, h => by unfold WfV at h ⊢; exact h
  | .str, v, h => by unfold WfV at h ⊢; exact h
  | .slc el, v, h => by
    unfold WfV at h ⊢
    obtain ⟨A, n, cap, h1, h0, h2⟩ := h
    refine ⟨A, n, cap, h1, h0, fun i hi => ?_⟩
    obtain ⟨h3, cs, h4, h5⟩ := h2 i hi
    exact ⟨h3, cs, WfL.mono hle el cs h4, fun j u hj => (h5 j u hj).mono hle⟩
theorem WfL.mono {H H' : Snap} (hle : SLe H H') : ∀ (l : List Sh) (cs : List Value), WfL H l cs → WfL H' l cs
  | [], cs, h => by unfold WfL at h ⊢; exact h
  | s :: r, cs, h => by
    unfold WfL at h ⊢
    obtain ⟨v, vs, h1, h2, h3⟩ := h
    exact ⟨v, vs, h1, WfV.mono hle s v h2, WfL.mono hle r vs h3⟩
end
theorem WfS.mono {H H' : Snap} {el : List Sh} {A : Option Addr} {n : Nat} (hle : SLe H H') (h : WfS H el A n) : WfS H' el A n := ⟨h.1, fun i hi => by
  obtain ⟨h3, cs, h4, h5⟩ := h.2 i hi
  exact ⟨h3, cs, WfL.mono hle el cs h4, fun j u hj => (h5 j u hj).mono hle⟩⟩
section
variable {H : Snap}
theorem wfv_int {k : IntKind} {v : Value} (h : WfV H (.int k) v) : ∃ n, v = .int k n := by unfold WfV at h; exact h
theorem wfv_bool {v : Value} (h : WfV H .bool v) : ∃ b, v = .bool b := by unfold WfV at h; exact h
theorem wfv_str {v : Value} (h : WfV H .str v) : ∃ s, v = .string s ∧ s.size < 9223372036854775808 := by unfold WfV at h; exact h
theorem wfv_slc {el : List Sh} {v : Value} (h : WfV H (.slc el) v) : ∃ A n cap, v = .slice A n cap ∧ WfS H el A n := by
  unfold WfV at h
  obtain ⟨A, n, cap, h1, h0, h2⟩ := h
  exact ⟨A, n, cap, h1, h0, h2⟩
theorem mkv_int (k : IntKind) (n : Int) : WfV H (.int k) (.int k n) := by unfold WfV; exact ⟨n, rfl⟩
theorem mkv_bool (b : Bool) : WfV H .bool (.bool b) := by unfold WfV; exact ⟨b, rfl⟩
theorem mkv_str (s : ByteArray) (h : s.size < 9223372036854775808) : WfV H .str (.string s) := by unfold WfV; exact ⟨s, rfl, h⟩
theorem extract_small {s : ByteArray} {a b : Nat} (h : s.size < 9223372036854775808) : (s.extract a b).size < 9223372036854775808 := by
  have := ByteArray.size_extract (a := s) (b := a) (e := b)
  omega
theorem mkv_slc {el : List Sh} {A : Option Addr} {n cap : Nat} (h : WfS H el A n) : WfV H (.slc el) (.slice A n cap) := by unfold WfV; exact ⟨A, n, cap, rfl, h.1, h.2⟩
theorem wfl_cons {s : Sh} {r : List Sh} {cs : List Value} (h : WfL H (s :: r) cs) : ∃ v vs, cs = v :: vs ∧ WfV H s v ∧ WfL H r vs := by unfold WfL at h; exact h
theorem wfl_nil {cs : List Value} (h : WfL H [] cs) : cs = [] := by unfold WfL at h; exact h
theorem mkl_cons {s : Sh} {r : List Sh} {v : Value} {vs : List Value} (h1 : WfV H s v) (h2 : WfL H r vs) : WfL H (s :: r) (v :: vs) := by unfold WfL; exact ⟨v, vs, rfl, h1, h2⟩
theorem mkl_nil : WfL H [] [] := by unfold WfL; rfl
theorem wfl_length : ∀ {l : List Sh} {cs : List Value}, WfL H l cs → cs.length = l.length
  | [], cs, h => by rw [wfl_nil h]; rfl
  | s :: r, cs, h => by
    obtain ⟨v, vs, rfl, _, h3⟩ := wfl_cons h
    simp [wfl_length h3]
theorem WfS.nil (el : List Sh) (A : Option Addr) : WfS H el A 0 := ⟨by decide, fun i hi => absurd hi (Nat.not_lt_zero i)⟩
/-- The element at z. -/
theorem WfS.at_ {el : List Sh} {A : Option Addr} {n : Nat} (h : WfS H el A n) (z : Int) (h0 : 0 ≤ z) (h1 : z < (n : Int)) :
    A.isSome = true ∧ ∃ cs, WfL H el cs ∧ ∀ j u, cs[j]? = some u → HasCell H (((addrOf A).add (z.toNat * el.length)).add j) u := h.2 z.toNat (by omega)
theorem add_add (p : Addr) (m n : Nat) : (p.add m).add n = p.add (m + n) := by
  unfold Addr.add
  by_cases hm : m = 0
  · subst hm; simp
  · by_cases hn : n = 0
    · subst hn; simp
    · have : m + n ≠ 0 := by omega
      simp [hm, hn, this, Nat.add_assoc]
theorem add_zero (p : Addr) : p.add 0 = p := by simp [Addr.add]
theorem cell0 {T : Addr} {v : Value} (h : HasCell H (T.add 0) v) : HasCell H T v := by rw [add_zero] at h; exact h
theorem cell2 {T : Addr} {m n : Nat} {v : Value} (h : HasCell H (T.add (m + n)) v) : HasCell H ((T.add m).add n) v := by rw [add_add]; exact h
theorem cell3 {T : Addr} {m n k : Nat} {v : Value} (h : HasCell H (T.add (m + n + k)) v) : HasCell H (((T.add m).add n).add k) v := by rw [add_add, add_add, ← Nat.add_assoc]; exact h
/-- The cells of a list of elements, one behind the other. -/
def Elems (H : Snap) (el : List Sh) : Nat → List Value → Prop
  | 0, xs => xs = []
  | n + 1, xs => ∃ ys cs, xs = ys ++ cs ∧ Elems H el n ys ∧ WfL H el cs
theorem Elems.length : ∀ {n : Nat} {el : List Sh} {xs : List Value}, Elems H el n xs → xs.length = n * el.length
  | 0, el, xs, h => by rw [h]; simp
  | n + 1, el, xs, h => by
    obtain ⟨ys, cs, rfl, h1, h2⟩ := h
    rw [List.length_append, Elems.length h1, wfl_length h2, Nat.succ_mul]
theorem Elems.mono {H' : Snap} (hle : SLe H H') : ∀ {n : Nat} {el : List Sh} {xs : List Value}, Elems H el n xs → Elems H' el n xs
  | 0, el, xs, h => h
  | n + 1, el, xs, h => by
    obtain ⟨ys, cs, rfl, h1, h2⟩ := h
    exact ⟨ys, cs, rfl, Elems.mono hle h1, WfL.mono hle el cs h2⟩
theorem Elems.snoc {n : Nat} {el : List Sh} {xs cs : List Value} (h : Elems H el n xs) (h2 : WfL H el cs) : Elems H el (n + 1) (xs ++ cs) := ⟨xs, cs, rfl, h, h2⟩
theorem Elems.nil (el : List Sh) : Elems H el 0 [] := rfl
theorem Elems.at_ : ∀ {n : Nat} {el : List Sh} {xs : List Value}, Elems H el n xs → ∀ i, i < n → ∃ cs, WfL H el cs ∧ ∀ j u, cs[j]? = some u → xs[i * el.length + j]? = some u
  | 0, el, xs, h, i, hi => absurd hi (Nat.not_lt_zero i)
  | n + 1, el, xs, h, i, hi => by
    obtain ⟨ys, cs, rfl, h1, h2⟩ := h
    have hl := h1.length
    rcases Nat.lt_or_ge i n with h3 | h3
    · obtain ⟨ds, h4, h5⟩ := Elems.at_ h1 i h3
      exact ⟨ds, h4, fun j u hj => by
        have := h5 j u hj
        rw [List.getElem?_append_left (List.getElem?_eq_some_iff.1 this).1]
        exact this⟩
    · have : i = n := by omega
      subst this
      refine ⟨cs, h2, fun j u hj => ?_⟩
      rw [List.getElem?_append_right (by omega), hl, Nat.add_sub_cancel_left]
      exact hj
/-- A row that was handed over for good. -/
theorem WfS.of_pre {n : Nat} {el : List Sh} {g : Nat} {xs : List Value} (hp : Pre H g xs) (h : Elems H el n xs) (hn : n < 9223372036854775808) : WfS H el (some ⟨g, 0, none⟩) n := ⟨hn, fun i hi => ⟨rfl, by
  obtain ⟨cs, h1, h2⟩ := h.at_ i hi
  refine ⟨cs, h1, fun j u hj => ?_⟩
  have h3 := hp.cell _ (h2 j u hj)
  have e : (((addrOf (some ⟨g, 0, none⟩)).add (i * el.length)).add j) = ⟨g, i * el.length + j, none⟩ := by
    rw [add_add, addrOf, Option.getD_some, addr_add, Nat.zero_add]
  rw [e]
  exact h3⟩⟩
variable {P : Program} {N : Nat} {w0 : World} {H0 : Snap} {kx : List Ent} {fr : List (Nat × Value)} {kb : List Ent} {ops : Array Oper} {Q : Exit → Act → World → Prop}
/-- An append onto a row of a length that is not known. -/
theorem Eff.appendN {G : Act → World → Prop} {o : Option Oper} (i : Nat) {v : Value} {n sz e : Nat} {xs : List Value} (hi : kb[i]? = some (.row v n sz e xs)) {t : Nat} {d : Option Tmp} {ad : Addr} {m c : Nat}
    (ho : appOf N ops fr o = some (v, .slice (some ad) m c, t, t, d)) (total : Nat) (he : elemOk P t e sz total = true) (ht : n + m ≤ total) (h63 : Nat.ble total 9223372036854775807 = true) (news : List Value) (hr : Reads H kb ad news) (hl : Nat.beq news.length (m * sz) = true) (h1 : news.all oneCell = true) (hpos : 1 ≤ n + m)
    (h : ∀ g cap, Ok N w0 H0 kx H (putF fr d (.slice (some ⟨g, 0, none⟩) (n + m) cap)) (kb.set i (.row (.slice (some ⟨g, 0, none⟩) (n + m) cap) (n + m) sz e (xs ++ news))) G) : Eff P N w0 H0 kx ops Q o H fr kb G := by
  obtain ⟨o', s, x, rfl, hd, hdk, hw, hop, hs, hx⟩ := appOf_spec ho
  obtain ⟨hty, inf, z, hinf, hz, hsz, hzs, hsp, hb⟩ := elemOk_spec he
  refine ⟨o', rfl, fun a w hsl hm => ⟨wantG_spec hw hsl, fun K hK => ?_⟩⟩
  have hown : w.ownsRow w0.heap.size e sz v n xs := (hm.ents _ (List.mem_append_left kx (List.mem_of_getElem? hi))).1
  obtain ⟨v', w', hrun, h2, h3, h4, h5⟩ := run_append_own_at (P := P) w w0.heap.size t o'.type e inf z sz inf.bytes hty hinf hz hsz rfl hzs hsp v n xs hown ad m c news (Nat.eq_of_beq_eq_true hl)
    (hr _ w hm.holds hm.liesL) (oneCell'_all h1) (by have := Nat.le_of_ble_eq_true h63; simp only [maxLen]; omega) (Nat.le_trans (Nat.mul_le_mul_right _ ht) hb) hm.below.size
  have h2' := h2
  rcases h2.2 with ⟨hv, hn⟩ | ⟨g, cap, cur, hv, _⟩
  · omega
  · subst hv
    unfold Oper.wp execOp
    simp only [hop, resolve, invoke, builtin, Sem.run_bind, Sem.run_pure, Result.andThen_ok, List.map_toArray, List.map_cons, List.map_nil, hsl.ev hs, hsl.ev hx, hrun]
    subst hd
    refine hK _ _ (h g cap _ _ (hsl.put (dstOk_spec hdk) _) ?_)
    exact hm.regrowL i hi (e' := .row (.slice (some ⟨g, 0, none⟩) (n + m) cap) (n + m) sz e (xs ++ news)) h3 h2' h5
/-- A region that only reckons: its tests meet again at its end. -/
theorem Ok.regJ {ι : Type} {id : Nat} (Fr : ι → List (Nat × Value)) (hk : ∀ y, OkQ N w0 H0 kx .normal Q H (Fr y) kb) (h : (∀ y, OkQ N w0 H0 kx .normal Q H (Fr y) kb) → OkI P N w0 H0 kx ops Q 0 H fr kb) : OkC P N w0 H0 kx (.region id ops false) Q H fr kb := Ok.reg (h hk)
theorem tmod_lit (a b : Int) (hb : 0 < b) : Int.tmod a b < b ∧ -b < Int.tmod a b ∧ (0 ≤ a → 0 ≤ Int.tmod a b) := by
  have h1 := Int.tmod_lt_of_pos a hb
  have h2 := Int.tmod_lt_of_pos (-a) hb
  rw [Int.neg_tmod] at h2
  exact ⟨h1, by omega, fun h => Int.tmod_nonneg b h⟩
def bAnd (k : IntKind) (x y : Int) : Int := k.wrap (BitVec.ofInt k.bits x &&& BitVec.ofInt k.bits y).toNat
theorem wrapU {x : Int} (h : 0 ≤ x ∧ x < 9223372036854775808) : IntKind.u64.wrap x = x := by
  unfold IntKind.wrap
  have e1 : (2 : Int) ^ IntKind.u64.bits = 18446744073709551616 := by decide
  have e3 : IntKind.u64.signed = false := rfl
  simp only [e1, e3, Bool.false_and]
  rw [if_neg (by decide)]
  omega
theorem wrapU_pos (x : Int) : 0 ≤ IntKind.u64.wrap x := by
  unfold IntKind.wrap
  have e1 : (2 : Int) ^ IntKind.u64.bits = 18446744073709551616 := by decide
  have e3 : IntKind.u64.signed = false := rfl
  simp only [e1, e3, Bool.false_and]
  rw [if_neg (by decide)]
  exact Int.emod_nonneg _ (by decide)
theorem uindex (i : Int) (n : Nat) (hn : 0 < n ∧ n < 9223372036854775808) : 0 ≤ Int.tmod (IntKind.u64.wrap i) (IntKind.u64.wrap (n : Int)) ∧ Int.tmod (IntKind.u64.wrap i) (IntKind.u64.wrap (n : Int)) < (n : Int) := by
  rw [wrapU (x := (n : Int)) (by omega)]
  exact ⟨Int.tmod_nonneg _ (wrapU_pos i), Int.tmod_lt_of_pos _ (by omega)⟩
/-- A number made to fit 0 .. n - 1. -/
theorem index_fits {i n : Int} (hn : 0 < n ∧ n < 9223372036854775808) : 0 ≤ IntKind.i64.wrap (Int.tmod (IntKind.u64.wrap i) (IntKind.u64.wrap n)) ∧ IntKind.i64.wrap (Int.tmod (IntKind.u64.wrap i) (IntKind.u64.wrap n)) < n := by
  rw [wrapU (x := n) (by omega)]
  have h0 := wrapU_pos i
  have h1 := Int.tmod_nonneg n h0
  have h2 := Int.tmod_lt_of_pos (IntKind.u64.wrap i) hn.1
  generalize IntKind.u64.wrap i = u at *
  have h3 : IntKind.i64.wrap (Int.tmod u n) = Int.tmod u n := by
    unfold IntKind.wrap
    have e1 : (2 : Int) ^ IntKind.i64.bits = 18446744073709551616 := by decide
    have e2 : (2 : Int) ^ (IntKind.i64.bits - 1) = 9223372036854775808 := by decide
    have e3 : IntKind.i64.signed = true := rfl
    simp only [e1, e2, e3, Bool.true_and, decide_eq_true_eq]
    split <;> omega
  rw [h3]
  exact ⟨h1, h2⟩
theorem u64_ne {n : Int} (hn : 0 < n ∧ n < 9223372036854775808) : IntKind.u64.wrap n ≠ 0 := by
  rw [wrapU (by omega)]
  omega
/-- A block that was just made, as a row. -/
theorem Mem.blkRow {w : World} (i : Nat) {b t n cap sz : Nat} {cs : List Value} (hi : kb[i]? = some (.blk b cs t)) (hc : Nat.beq cs.length (cap * sz) = true) (hn : Nat.ble n cap = true) (hm : Nat.ble cap 9223372036854775807 = true) (xs : List Value) (hx : cs.take (n * sz) = xs)
    (hm2 : Mem w0 H0 H (kb ++ kx) w) : Mem w0 H0 H (kb.set i (.row (.slice (some ⟨b, 0, none⟩) n cap) n sz t xs) ++ kx) w := by
  have hl : w0.heap.size ≤ b ∧ w.heap[b]? = some (.cells cs.toArray t (0, 0)) := (hm2.ents _ (List.mem_append_left kx (List.mem_of_getElem? hi))).1
  have hc := Nat.eq_of_beq_eq_true hc
  have hn := Nat.le_of_ble_eq_true hn
  have hcap := Nat.le_of_ble_eq_true hm
  refine hm2.regrowL i hi (e' := .row (.slice (some ⟨b, 0, none⟩) n cap) n sz t xs) ⟨rfl, rfl, rfl, Nat.le_refl _, fun _ _ _ => rfl⟩ ⟨?_, .inr ⟨b, cap, cs.toArray, rfl, hl.1, hl.2, hn, by simpa [maxLen] using hcap, by simpa using hc, by simpa using hx⟩⟩ (.inl rfl)
  rw [← hx, List.length_take, hc]
  exact Nat.min_eq_left (Nat.mul_le_mul_right _ hn)
theorem Ok.blkRow {G : Act → World → Prop} (i : Nat) {b t n cap sz : Nat} {cs : List Value} (hi : kb[i]? = some (.blk b cs t)) (hc : Nat.beq cs.length (cap * sz) = true) (hn : Nat.ble n cap = true) (hm : Nat.ble cap 9223372036854775807 = true) (xs : List Value) (hx : cs.take (n * sz) = xs)
    (h : Ok N w0 H0 kx H fr (kb.set i (.row (.slice (some ⟨b, 0, none⟩) n cap) n sz t xs)) G) : Ok N w0 H0 kx H fr kb G := fun a w hs hm2 => h a w hs (Mem.blkRow i hi hc hn hm xs hx hm2)
theorem Eff.blkRow {G : Act → World → Prop} {o : Option Oper} (i : Nat) {b t n cap sz : Nat} {cs : List Value} (hi : kb[i]? = some (.blk b cs t)) (hc : Nat.beq cs.length (cap * sz) = true) (hn : Nat.ble n cap = true) (hm : Nat.ble cap 9223372036854775807 = true) (xs : List Value) (hx : cs.take (n * sz) = xs)
    (h : Eff P N w0 H0 kx ops Q o H fr (kb.set i (.row (.slice (some ⟨b, 0, none⟩) n cap) n sz t xs)) G) : Eff P N w0 H0 kx ops Q o H fr kb G := by
  obtain ⟨o', ho, h1⟩ := h
  exact ⟨o', ho, fun a w hs hm2 => h1 a w hs (Mem.blkRow i hi hc hn hm xs hx hm2)⟩
theorem wfv_one {s : Sh} {v : Value} (h : WfV H s v) : v.oneCell' = true := by
  cases s with
  | int k => obtain ⟨n, rfl⟩ := wfv_int h; rfl
  | bool => obtain ⟨n, rfl⟩ := wfv_bool h; rfl
  | str => obtain ⟨n, rfl, _⟩ := wfv_str h; rfl
  | slc el => obtain ⟨A, n, c, rfl, _⟩ := wfv_slc h; rfl
theorem wfl_one : ∀ {l : List Sh} {cs : List Value}, WfL H l cs → ∀ u ∈ cs, u.oneCell' = true
  | [], cs, h, u, hu => by rw [wfl_nil h] at hu; cases hu
  | s :: r, cs, h, u, hu => by
    obtain ⟨v, vs, rfl, h2, h3⟩ := wfl_cons h
    rcases List.mem_cons.1 hu with rfl | hu
    · exact wfv_one h2
    · exact wfl_one h3 u hu
theorem Elems.one : ∀ {n : Nat} {el : List Sh} {xs : List Value}, Elems H el n xs → ∀ u ∈ xs, u.oneCell' = true
  | 0, el, xs, h, u, hu => by rw [show xs = [] from h] at hu; cases hu
  | n + 1, el, xs, h, u, hu => by
    obtain ⟨ys, cs, rfl, h1, h2⟩ := h
    rcases List.mem_append.1 hu with hu | hu
    · exact Elems.one h1 u hu
    · exact wfl_one h2 u hu
theorem Elems.app {n : Nat} {el : List Sh} {xs : List Value} (h : Elems H el n xs) : ∀ {m : Nat} {ys : List Value}, Elems H el m ys → Elems H el (n + m) (xs ++ ys)
  | 0, ys, h2 => by rw [show ys = [] from h2]; simpa using h
  | m + 1, ys, h2 => by
    obtain ⟨zs, cs, rfl, h3, h4⟩ := h2
    exact ⟨xs ++ zs, cs, by rw [List.append_assoc], Elems.app h h3, h4⟩
/-- A slice's cells as a list. -/
theorem WfS.list {el : List Sh} {ad : Addr} : ∀ {m : Nat}, (∀ i, i < m → ∃ cs, WfL H el cs ∧ ∀ j u, cs[j]? = some u → HasCell H ((ad.add (i * el.length)).add j) u) → ∃ ys, Elems H el m ys ∧ ∀ j u, ys[j]? = some u → HasCell H (ad.add j) u
  | 0, _ => ⟨[], rfl, fun j u h => by cases j <;> cases h⟩
  | m + 1, h => by
    obtain ⟨ys, h1, h2⟩ := WfS.list (m := m) fun i hi => h i (by omega)
    obtain ⟨cs, h3, h4⟩ := h m (Nat.lt_succ_self m)
    refine ⟨ys ++ cs, ⟨ys, cs, rfl, h1, h3⟩, fun j u hj => ?_⟩
    rcases Nat.lt_or_ge j ys.length with hlt | hge
    · rw [List.getElem?_append_left hlt] at hj
      exact h2 j u hj
    · rw [List.getElem?_append_right hge] at hj
      have h5 := h4 _ u hj
      rw [add_add, ← h1.length, Nat.add_sub_cancel' hge] at h5
      exact h5
/-- An append of a whole slice that lies in memory that stays. -/
theorem Eff.appendS {G : Act → World → Prop} {o : Option Oper} (i : Nat) {v : Value} {n sz e : Nat} {xs : List Value} (hi : kb[i]? = some (.row v n sz e xs)) {t : Nat} {d : Option Tmp} {A : Option Addr} {m c : Nat}
    (ho : appOf N ops fr o = some (v, .slice A m c, t, t, d)) (total : Nat) (he : elemOk P t e sz total = true) (ht : n + m ≤ total) (h63 : Nat.ble total 9223372036854775807 = true) {el : List Sh} (hel : el.length = sz) (hs : WfS H el A m) (hx : Elems H el n xs)
    (h : ∀ A' cap ys, Elems H el (n + m) ys → Ok N w0 H0 kx H (putF fr d (.slice A' (n + m) cap)) (kb.set i (.row (.slice A' (n + m) cap) (n + m) sz e ys)) G) : Eff P N w0 H0 kx ops Q o H fr kb G := by
  obtain ⟨o', s, x, rfl, hd, hdk, hw, hop, hsv, hxv⟩ := appOf_spec ho
  obtain ⟨hty, inf, z, hinf, hz, hsz, hzs, hsp, hb⟩ := elemOk_spec he
  refine ⟨o', rfl, fun a w hsl hm => ⟨wantG_spec hw hsl, fun K hK => ?_⟩⟩
  have hown : w.ownsRow w0.heap.size e sz v n xs := (hm.ents _ (List.mem_append_left kx (List.mem_of_getElem? hi))).1
  have key : ∃ v' w' ys, (Builtin.append_ #[t, t] o'.type #[v, .slice A m c]).run P w = .ok v' w' ∧ w'.ownsRow w0.heap.size e sz v' (n + m) ys ∧ w.grownBy w' v.ownBlock ∧ (v'.ownBlock = v.ownBlock ∨ v'.ownBlock = some w.heap.size) ∧ Elems H el (n + m) ys := by
    cases A with
    | none =>
      have hm0 : m = 0 := by
        rcases Nat.eq_zero_or_pos m with h0 | h0
        · exact h0
        · have := (hs.2 0 h0).1
          cases this
      subst hm0
      refine ⟨v, w, xs, ?_, hown, ⟨rfl, rfl, rfl, Nat.le_refl _, fun _ _ _ => rfl⟩, .inl rfl, hx⟩
      rcases hown.2 with ⟨rfl, rfl⟩ | ⟨g, cap, cur, rfl, _, _, hnc, _⟩
      · simp [Builtin.append_, run_underlying hty, sizeOf, typeInfo, hinf, Builtin.lenOf, Builtin.firstCells]
      · simp [Builtin.append_, run_underlying hty, sizeOf, typeInfo, hinf, Builtin.lenOf, Builtin.firstCells, hnc, storeCells]
    | some ad =>
      obtain ⟨news, h1, h2⟩ := WfS.list (ad := ad) (m := m) fun i hi => (hs.2 i hi).2
      obtain ⟨v', w', hrun, h3, h4, h5, h6⟩ := run_append_own_at (P := P) w w0.heap.size t o'.type e inf z sz inf.bytes hty hinf hz hsz rfl hzs hsp v n xs hown ad m c news (by rw [h1.length, hel])
        (fun j u hj => has_cell hm.holds (h2 j u hj)) h1.one (by have := Nat.le_of_ble_eq_true h63; simp only [maxLen]; omega) (Nat.le_trans (Nat.mul_le_mul_right _ ht) hb) hm.below.size
      exact ⟨v', w', _, hrun, h3, h4, h6, hx.app h1⟩
  obtain ⟨v', w', ys, hrun, h2, h3, h5, h6⟩ := key
  have hsh : ∃ A' cap, v' = .slice A' (n + m) cap := by
    rcases h2.2 with ⟨hv, hn⟩ | ⟨g, cap, cur, hv, _⟩
    · exact ⟨none, 0, by rw [hv, hn]⟩
    · exact ⟨_, _, hv⟩
  obtain ⟨A', cap, rfl⟩ := hsh
  unfold Oper.wp execOp
  simp only [hop, resolve, invoke, builtin, Sem.run_bind, Sem.run_pure, Result.andThen_ok, List.map_toArray, List.map_cons, List.map_nil, hsl.ev hsv, hsl.ev hxv, hrun]
  subst hd
  refine hK _ _ (h A' cap ys h6 _ _ (hsl.put (dstOk_spec hdk) _) ?_)
  exact hm.regrowL i hi (e' := .row (.slice A' (n + m) cap) (n + m) sz e ys) h3 h2 h5
/-- A row handed over for good, of a length that is not known. -/
theorem Ok.pubS {G : Act → World → Prop} (i : Nat) {A : Option Addr} {cap n sz e : Nat} {xs : List Value} (hi : kb[i]? = some (.row (.slice A n cap) n sz e xs)) {el : List Sh} (hx : Elems H el n xs) (hn : n < 9223372036854775808) (kb' : List Ent) (he : kb.eraseIdx i = kb')
    (h : ∀ H', SLe H H' → WfS H' el A n → Ok N w0 H0 kx H' fr kb' G) : Ok N w0 H0 kx H fr kb G :=
  Ok.pubRow i hi kb' he fun H' hle hb => h H' hle (by
    obtain ⟨hlen, ⟨hv, h0⟩ | ⟨g', cap', cur, hv, hH, _, _, _, htake⟩⟩ := hb
    · subst h0
      exact WfS.nil _ _
    · injection hv with hv
      subst hv
      exact WfS.of_pre ⟨cur, e, _, hH, by rw [hlen]; exact htake⟩ (hx.mono hle) hn)
theorem Ok.ret3c {fn : Func} {t ty u u2 : Nat} {Hs : Snap} {Post : Value → Snap → List Ent → Prop} (hle : SLe Hs H) (hs : List Hint) (v x y : Value) (L : List Nat) (hr : fn.results = #[.cell t ty, .tmp u, .tmp u2]) (hg : cellGo P H kb (lk fr t) ty hs = some ⟨v, dup L, []⟩) (hl : lk fr u = some x) (hl2 : lk fr u2 = some y) (hp : Post (.tuple #[v, x, y]) H kb) :
    OkQ N w0 H0 kx .ret (bodyPost P fn (Ret w0 H0 kx Hs Post)) H fr kb := fun a w hs2 hm => by
  obtain ⟨ad, h1, h2⟩ := cellGo_run hg hs2 hm.holds hm.liesL
  exact bodyPost_any hs2.1 (by simp only [results, hr]; simp [h1, asAddr, h2, hs2.lk hl, hs2.lk hl2]) (Ret.mk hm hle hp)
/-- A row of which the head alone is kept. -/
theorem Mem.cutRow {w : World} (i : Nat) {A : Option Addr} {cap n sz e k : Nat} {xs : List Value} (hi : kb[i]? = some (.row (.slice A n cap) n sz e xs)) (hk : k ≤ n)
    (hm : Mem w0 H0 H (kb ++ kx) w) : Mem w0 H0 H (kb.set i (.row (.slice A k cap) k sz e (xs.take (k * sz))) ++ kx) w := by
  have hl : w.ownsRow w0.heap.size e sz (.slice A n cap) n xs := (hm.ents _ (List.mem_append_left kx (List.mem_of_getElem? hi))).1
  have hlen : (xs.take (k * sz)).length = k * sz := by
    rw [List.length_take, hl.1]
    exact Nat.min_eq_left (Nat.mul_le_mul_right _ hk)
  refine hm.regrowL i hi (e' := .row (.slice A k cap) k sz e (xs.take (k * sz))) ⟨rfl, rfl, rfl, Nat.le_refl _, fun _ _ _ => rfl⟩ ⟨hlen, ?_⟩ (.inl ?_)
  · rcases hl.2 with ⟨hv, hn⟩ | ⟨g, c, cur, hv, hg, hh, h1, h2, h3, h4⟩
    · injection hv with hA hn' hc
      have hk0 : k = 0 := by omega
      exact .inl ⟨by rw [hA, hc, hk0], hk0⟩
    · injection hv with hA hn' hc
      refine .inr ⟨g, c, cur, by rw [hA, hc], hg, hh, by omega, h2, h3, ?_⟩
      rw [← h4, List.take_take]
      congr 1
      exact (Nat.min_eq_left (Nat.mul_le_mul_right _ hk)).symm
  · cases A <;> rfl
theorem Ok.cutRow {G : Act → World → Prop} (i : Nat) {A : Option Addr} {cap n sz e : Nat} {xs : List Value} (k : Nat) (hi : kb[i]? = some (.row (.slice A n cap) n sz e xs)) (hk : k ≤ n)
    (h : Ok N w0 H0 kx H fr (kb.set i (.row (.slice A k cap) k sz e (xs.take (k * sz)))) G) : Ok N w0 H0 kx H fr kb G := fun a w hs hm => h a w hs (Mem.cutRow i hi hk hm)
theorem Elems.take : ∀ {n : Nat} {el : List Sh} {xs : List Value}, Elems H el n xs → ∀ k, k ≤ n → Elems H el k (xs.take (k * el.length))
  | 0, el, xs, h, k, hk => by
    have : k = 0 := by omega
    subst this
    show xs.take (0 * el.length) = []
    simp
  | n + 1, el, xs, h, k, hk => by
    obtain ⟨ys, cs, rfl, h1, h2⟩ := h
    rcases Nat.lt_or_ge n k with h3 | h3
    · have : k = n + 1 := by omega
      subst this
      rw [List.take_of_length_le (by rw [List.length_append, h1.length, wfl_length h2, Nat.succ_mul]; exact Nat.le_refl _)]
      exact ⟨ys, cs, rfl, h1, h2⟩
    · rw [List.take_append_of_le_length (by rw [h1.length]; exact Nat.mul_le_mul_right _ h3)]
      exact Elems.take h1 k h3
theorem Elems.drop {el : List Sh} : ∀ {n : Nat} {xs : List Value}, Elems H el n xs → ∀ k, k ≤ n → Elems H el (n - k) (xs.drop (k * el.length))
  | 0, xs, h, k, hk => by
    have : k = 0 := by omega
    subst this
    rw [show xs = [] from h]
    show List.drop (0 * el.length) [] = []
    simp
  | n + 1, xs, h, k, hk => by
    obtain ⟨ys, cs, rfl, h1, h2⟩ := h
    rcases Nat.lt_or_ge n k with h3 | h3
    · have : k = n + 1 := by omega
      subst this
      rw [List.drop_of_length_le (by rw [List.length_append, h1.length, wfl_length h2, Nat.succ_mul]; exact Nat.le_refl _), Nat.sub_self]
      rfl
    · rw [List.drop_append_of_le_length (by rw [h1.length]; exact Nat.mul_le_mul_right _ h3), Nat.succ_sub h3]
      exact ⟨_, cs, rfl, Elems.drop h1 k h3, h2⟩
/-- A row that holds something begins at the head of a block. -/
theorem Ok.rowSome {G : Act → World → Prop} (i : Nat) {A : Option Addr} {cap n sz e : Nat} {xs : List Value} (hi : kb[i]? = some (.row (.slice A n cap) n sz e xs)) (hn : 0 < n)
    (h : ∀ g, A = some ⟨g, 0, none⟩ → Ok N w0 H0 kx H fr kb G) : Ok N w0 H0 kx H fr kb G := fun a w hs hm => by
  have hl : w.ownsRow w0.heap.size e sz (.slice A n cap) n xs := (hm.ents _ (List.mem_append_left kx (List.mem_of_getElem? hi))).1
  rcases hl.2 with ⟨hv, h0⟩ | ⟨g, c, cur, hv, _⟩
  · omega
  · injection hv with hA
    exact h g hA a w hs hm
end
end Go.Proofs.YtdifenljfklolaaGreatDoor.Sx
