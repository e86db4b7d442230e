/- What the caller's memory holds, read as data, in the words of the engine: forms, lists, trees. -/
import Derived.Test.YtdifenljfklolaaGreatDoorSxJ
import Derived.ChangeArms
import Derived.Deep.Slices
set_option linter.unusedVariables false
set_option linter.unusedSimpArgs false
namespace Go.Proofs.YtdifenljfklolaaGreatDoor.Sx
open Go Go.RowKit
abbrev HW (W : World) : Snap := fun k => W.heap[k]?
theorem hc_of {W : World} {a : Addr} {v : Value} (h : W.cell? a = some v) : HasCell (HW W) a v := by
  unfold World.cell? at h
  split at h
  · rename_i c t fr hh
    split at h
    · cases h
    · rename_i hs
      exact ⟨c, t, fr, hh, by simpa using hs, h⟩
  · cases h
theorem WfL.append {H : Snap} : ∀ {a b : List Sh} {xs ys : List Value}, WfL H a xs → WfL H b ys → WfL H (a ++ b) (xs ++ ys)
  | [], b, xs, ys, h, h2 => by rw [wfl_nil h]; exact h2
  | s :: r, b, xs, ys, h, h2 => by
    obtain ⟨v, vs, rfl, h3, h4⟩ := wfl_cons h
    exact mkl_cons h3 (WfL.append h4 h2)
/-- The forms of a type's cells, by the program's table. -/
def flatF (g : TypeId → Option (List Sh)) (P : Program) : Nat → List Field → Option (List Sh)
  | _, [] => some []
  | o, f :: r => match Nat.beq f.offset o, g f.type with
    | true, some l => match Nat.beq l.length (P.cellsOf f.type), flatF g P (o + l.length) r with
      | true, some m => some (l ++ m)
      | _, _ => none
    | _, _ => none
def flat (P : Program) : Nat → TypeId → Option (List Sh)
  | 0, _ => none
  | n + 1, t => match P.underlying t with
    | some .bool => some [.bool]
    | some (.int k) => some [.int k]
    | some .string => some [.str]
    | some (.slice e) => match flat P n e with
      | some el => match Nat.beq el.length (P.cellsOf e) with
        | true => some [.slc el]
        | false => none
      | none => none
    | some (.struct fs) => match flatF (flat P n) P 0 fs.toList with
      | some l => match Nat.beq l.length (P.cellsOf t) with
        | true => some l
        | false => none
      | none => none
    | _ => none
section
variable {H : Type} {enc : TypeId × Value → H} {P : Program} {W : World} {sp : Nat → Bool} {held : Bool}
theorem wf_fields {g : TypeId → Option (List Sh)} {n : Nat} {cs : List Value} (hg : ∀ t l cs y, g t = some l → DataW.trod enc P W 0 sp held n t cs = some y → WfL (HW W) l cs) :
    ∀ (fs : List Field) (o : Nat) (l : List Sh), flatF g P o fs = some l → (∀ f ∈ fs, ∃ y, DataW.trod enc P W 0 sp held n f.type ((cs.drop f.offset).take (P.cellsOf f.type)) = some y) → WfL (HW W) l ((cs.drop o).take l.length)
  | [], o, l, h, _ => by
    simp only [flatF, Option.some.injEq] at h
    subst h
    exact mkl_nil
  | f :: r, o, l, h, hy => by
    simp only [flatF] at h
    split at h <;> try (cases h; done)
    rename_i l1 ho hl1
    split at h <;> try (cases h; done)
    rename_i m hlen hm
    injection h with h
    subst h
    have ho := Nat.eq_of_beq_eq_true ho
    have hlen := Nat.eq_of_beq_eq_true hlen
    obtain ⟨y, h1⟩ := hy f List.mem_cons_self
    have h2 := hg _ _ _ _ hl1 h1
    have h3 := wf_fields hg r _ _ hm (fun f hf => hy f (List.mem_cons_of_mem _ hf))
    rw [ho, ← hlen] at h2
    rw [List.length_append, List.take_add, List.drop_drop]
    exact WfL.append h2 h3
theorem slice_wf {e : TypeId} {el : List Sh} {t : TypeId} {fuel : Nat} {cs : List Value} {x : DataW H × List MemPlace} (ht : P.underlying t = some (.slice e)) (hel : el.length = P.cellsOf e)
    (ih : ∀ n cs y, DataW.trod enc P W 0 sp held n e cs = some y → WfL (HW W) el cs) (h : DataW.trod enc P W 0 sp held fuel t cs = some x) : WfL (HW W) [.slc el] cs := by
  rcases DataW.trod_slice ht h with ⟨rfl, _⟩ | ⟨a, len, cap, elems, rest, n, _, rfl, _, _, hl, hm, hlen, hel', _, _⟩
  · exact mkl_cons (mkv_slc (WfS.nil _ _)) mkl_nil
  · refine mkl_cons (mkv_slc ⟨by simp only [maxLen] at hm; omega, fun i hi => ⟨rfl, ?_⟩⟩) mkl_nil
    have h1 := hel' i hi
    rw [List.getElem?_eq_getElem (by omega)] at h1
    obtain ⟨cs', h2, h3⟩ := Option.bind_eq_some_iff.1 h1
    obtain ⟨_, h4, h5⟩ := World.cells?_some h2
    refine ⟨cs', ih _ _ _ h3, fun j u hj => ?_⟩
    have hj' := (List.getElem?_eq_some_iff.1 hj).1
    have h6 := h5 j (by omega)
    rw [hj] at h6
    rw [hel]
    exact hc_of h6
theorem wf_flat : ∀ (n : Nat) (t : TypeId) (l : List Sh) (fuel : Nat) (cs : List Value) (x : DataW H × List MemPlace), flat P n t = some l → DataW.trod enc P W 0 sp held fuel t cs = some x → WfL (HW W) l cs
  | 0, t, l, fuel, cs, x, h, _ => by cases h
  | n + 1, t, l, fuel, cs, x, h, hx => by
    simp only [flat] at h
    split at h
    · rename_i ht
      injection h with h
      subst h
      obtain ⟨b, rfl, _⟩ := DataW.trod_bool ht hx
      exact mkl_cons (mkv_bool b) mkl_nil
    · rename_i k ht
      injection h with h
      subst h
      obtain ⟨z, rfl, _⟩ := DataW.trod_int ht hx
      exact mkl_cons (mkv_int k z) mkl_nil
    · rename_i ht
      injection h with h
      subst h
      obtain ⟨s, rfl, _, hs⟩ := DataW.trod_string ht hx
      exact mkl_cons (mkv_str s (by simp only [maxLen] at hs; omega)) mkl_nil
    · rename_i e ht
      split at h <;> try (cases h; done)
      rename_i el hel
      split at h <;> try (cases h; done)
      rename_i hb
      injection h with h
      subst h
      exact slice_wf ht (Nat.eq_of_beq_eq_true hb) (fun m cs y hy => wf_flat n e el m cs y hel hy) hx
    · rename_i fs ht
      split at h <;> try (cases h; done)
      rename_i l' hl'
      split at h <;> try (cases h; done)
      rename_i hb
      injection h with h
      subst h
      have hb := Nat.eq_of_beq_eq_true hb
      obtain ⟨xs, m, rfl, _, hlen, hxl, hf⟩ := DataW.trod_struct ht hx
      have h2 := wf_fields (n := m) (cs := cs) (fun t l cs y hl hy => wf_flat n t l m cs y hl hy) fs.toList 0 _ hl' (fun f hf' => by
        obtain ⟨i, hi, hfi⟩ := List.getElem_of_mem hf'
        have h3 := hf i f (by rw [← Array.getElem?_toList, List.getElem?_eq_getElem hi, hfi])
        rw [List.getElem?_eq_getElem (by rw [hxl]; simpa using hi)] at h3
        exact ⟨_, h3⟩)
      rw [List.drop_zero, List.take_of_length_le (by omega)] at h2
      exact h2
    · cases h
theorem kids_of {W : World} {a : Addr} : ∀ (len i0 : Nat), (∀ i, i < len → ∃ t cs, PredIs (HW W) t cs ∧ ∀ j u, cs[j]? = some u → HasCell (HW W) ((a.add ((i0 + i) * 7)).add j) u) → ∃ ks : PTs, ks.len = len ∧ KidsAt (HW W) ks (some a) i0
  | 0, i0, _ => ⟨.nil, rfl, KidsAt.nil _ _⟩
  | len + 1, i0, h => by
    obtain ⟨t, cs, h1, h2⟩ := h 0 (Nat.succ_pos _)
    obtain ⟨ks, h3, h4⟩ := kids_of len (i0 + 1) fun i hi => by
      obtain ⟨t, cs, h5, h6⟩ := h (i + 1) (by omega)
      exact ⟨t, cs, h5, by rw [show i0 + 1 + i = i0 + (i + 1) by omega]; exact h6⟩
    refine ⟨.cons t ks, by simp only [PTs.len, h3], ?_⟩
    unfold KidsAt
    exact ⟨rfl, ⟨cs, h1, h2⟩, h4⟩
end
section
variable {H : Type} {enc : TypeId × Value → H} {W : World} {sp : Nat → Bool} {held : Bool}
theorem len7 {cs : List Value} (h : cs.length = 7) : ∃ a b c d e f g, cs = [a, b, c, d, e, f, g] := by
  match cs, h with
  | [a, b, c, d, e, f, g], _ => exact ⟨a, b, c, d, e, f, g, rfl⟩
theorem len10 {cs : List Value} (h : cs.length = 10) : ∃ a b c d e f g x y z, cs = [a, b, c, d, e, f, g, x, y, z] := by
  match cs, h with
  | [a, b, c, d, e, f, g, x, y, z], _ => exact ⟨a, b, c, d, e, f, g, x, y, z, rfl⟩
theorem piece {P : Program} {n : Nat} {fs : Array Field} {cs : List Value} {xs : List (DataW H × List MemPlace)} (hxl : xs.length = fs.size) (hf : ∀ (i : Nat) (f : Field), fs[i]? = some f → DataW.trod enc P W 0 sp held n f.type ((cs.drop f.offset).take (P.cellsOf f.type)) = xs[i]?)
    (i t off sz : Nat) {f : Field} (hi : fs[i]? = some f) (ht : f.type = t) (ho : f.offset = off) (hs : P.cellsOf t = sz) : ∃ y, DataW.trod enc P W 0 sp held n t ((cs.drop off).take sz) = some y := by
  subst ht; subst ho; subst hs
  have h1 := hf i f hi
  have h2 := (Array.getElem?_eq_some_iff.1 hi).1
  rw [List.getElem?_eq_getElem (by omega)] at h1
  exact ⟨_, h1⟩
theorem trod_pred : ∀ (fuel : Nat) (cs : List Value) (x : DataW H × List MemPlace), DataW.trod enc Tryz.prog W 0 sp held fuel 27 cs = some x → ∃ t, PredIs (HW W) t cs := by
  intro fuel
  induction fuel using Nat.strongRecOn
  rename_i fuel ih
  intro cs x h
  obtain ⟨xs, n, rfl, _, hlen, hxl, hf⟩ := DataW.trod_struct Tryz.underlying27 h
  rw [show Tryz.prog.cellsOf 27 = 7 by kernel_rfl] at hlen
  obtain ⟨c0, c1, c2, c3, c4, c5, c6, rfl⟩ := len7 hlen
  obtain ⟨y0, g0⟩ := piece hxl hf 0 3 0 1 rfl rfl rfl (by kernel_rfl)
  obtain ⟨y1, g1⟩ := piece hxl hf 1 3 1 1 rfl rfl rfl (by kernel_rfl)
  obtain ⟨y2, g2⟩ := piece hxl hf 2 2 2 1 rfl rfl rfl (by kernel_rfl)
  obtain ⟨y3, g3⟩ := piece hxl hf 3 2 3 1 rfl rfl rfl (by kernel_rfl)
  obtain ⟨y4, g4⟩ := piece hxl hf 4 24 4 1 rfl rfl rfl (by kernel_rfl)
  obtain ⟨y5, g5⟩ := piece hxl hf 5 9 5 1 rfl rfl rfl (by kernel_rfl)
  obtain ⟨y6, g6⟩ := piece hxl hf 6 25 6 1 rfl rfl rfl (by kernel_rfl)
  have s0 := wf_flat 1 3 [.int .i64] _ _ _ (by kernel_rfl) g0
  have s1 := wf_flat 1 3 [.int .i64] _ _ _ (by kernel_rfl) g1
  have s2 := wf_flat 1 2 [.int .i64] _ _ _ (by kernel_rfl) g2
  have s3 := wf_flat 1 2 [.int .i64] _ _ _ (by kernel_rfl) g3
  have s4 := wf_flat 3 24 [.slc elV] _ _ _ (by kernel_rfl) g4
  have s5 := wf_flat 1 9 [.str] _ _ _ (by kernel_rfl) g5
  obtain ⟨_, _, e0, v0, _⟩ := wfl_cons s0
  obtain ⟨_, _, e1, v1, _⟩ := wfl_cons s1
  obtain ⟨_, _, e2, v2, _⟩ := wfl_cons s2
  obtain ⟨_, _, e3, v3, _⟩ := wfl_cons s3
  obtain ⟨_, _, e4, v4, _⟩ := wfl_cons s4
  obtain ⟨_, _, e5, v5, _⟩ := wfl_cons s5
  injection e0 with e0 _; injection e1 with e1 _; injection e2 with e2 _; injection e3 with e3 _; injection e4 with e4 _; injection e5 with e5 _
  subst e0; subst e1; subst e2; subst e3; subst e4; subst e5
  obtain ⟨z0, rfl⟩ := wfv_int v0
  obtain ⟨z1, rfl⟩ := wfv_int v1
  obtain ⟨z2, rfl⟩ := wfv_int v2
  obtain ⟨z3, rfl⟩ := wfv_int v3
  obtain ⟨A4, n4, k4, rfl, f4⟩ := wfv_slc v4
  obtain ⟨s, rfl, hs⟩ := wfv_str v5
  obtain ⟨l4, h4⟩ := f4.lst
  rcases DataW.trod_slice Tryz.underlying25 g6 with ⟨hk, _⟩ | ⟨a, len, cap, elems, rest, m, rfl, hk, _, _, hl, hm, hlen', hel', _, _⟩
  · injection hk with hk _
    subst hk
    exact ⟨.node z0 z1 z2 z3 l4 s .nil, PredIs.mk h4 hs (KidsIs.nil _)⟩
  · injection hk with hk _
    subst hk
    rw [show Tryz.prog.cellsOf 27 = 7 by kernel_rfl] at hel'
    obtain ⟨ks, h5, h6⟩ := kids_of (W := W) (a := a) len 0 fun i hi => by
      have h1 := hel' i hi
      rw [List.getElem?_eq_getElem (by omega)] at h1
      obtain ⟨cs', h2, h3⟩ := Option.bind_eq_some_iff.1 h1
      obtain ⟨_, h7, h8⟩ := World.cells?_some h2
      obtain ⟨t, ht⟩ := ih m (by omega) cs' _ h3
      refine ⟨t, cs', ht, fun j u hj => ?_⟩
      have hj' := (List.getElem?_eq_some_iff.1 hj).1
      have h9 := h8 j (by omega)
      rw [hj] at h9
      rw [Nat.zero_add]
      exact hc_of h9
    exact ⟨.node z0 z1 z2 z3 l4 s ks, PredIs.mk h4 hs ⟨h5.symm, by simp only [maxLen] at hm; omega, h6⟩⟩
end
end Go.Proofs.YtdifenljfklolaaGreatDoor.Sx
