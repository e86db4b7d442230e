/- The plain law: what a predicate's tree answers, what the projection makes of it; no program in sight. -/
import Derived.Test.YtdifenljfklolaaGreatDoorSxI
set_option linter.unusedVariables false
set_option linter.unusedSimpArgs false
namespace Go.Proofs.YtdifenljfklolaaGreatDoor.Sx
open Go Go.RowKit
abbrev Val := Bool × Int × ByteArray
def truthS (b : Bool) : Int := if b then 1 else 0
def withinS (n : Int) (s : ByteArray) : List (List Value) → Bool
  | [] => false
  | cs :: r => (match cs with
    | [.bool b, .int _ m, .string u] => !b && (m == n && u.toList == s.toList)
    | _ => false) || withinS n s r
def beginsS (s t : ByteArray) : Bool := decide (t.size ≤ s.size) && (s.extract 0 t.size).toList == t.toList
def simpleS (op lo hi : Int) (set : List (List Value)) (text : ByteArray) (v : Val) : Int :=
  if op = 4 then truthS v.1 else if v.1 = true then 2 else if op = 1 then truthS (decide (lo ≤ v.2.1) && decide (v.2.1 ≤ hi)) else if op = 2 then truthS (withinS v.2.1 v.2.2 set) else truthS (beginsS v.2.2 text)
def evS (op sv : Int) (yes no n : Nat) : Int :=
  if op = 0 then 1 else if 1 ≤ op ∧ op ≤ 4 then sv
  else if op = 5 then (if 0 < no ∨ yes = n then truthS (decide (no = 0)) else 2)
  else if op = 6 then (if 0 < yes ∨ no = n then truthS (decide (0 < yes)) else 2)
  else if op = 7 then (if n = 1 ∧ yes + no = 1 then truthS (decide (no = 1)) else 2) else 2
mutual
def PT.ev (v : Int → Val) : PT → Int
  | .node op id lo hi set text kids => evS op (simpleS op lo hi set text (v id)) (kids.cnt v 1) (kids.cnt v 0) kids.len
def PTs.cnt (v : Int → Val) : PTs → Int → Nat
  | .nil, _ => 0
  | .cons t r, k => (if t.ev v = k then 1 else 0) + r.cnt v k
end
abbrev zeroP : PT := .node 0 0 0 0 [] ⟨#[]⟩ .nil
abbrev notP (t : PT) : PT := .node 7 0 0 0 [] ⟨#[]⟩ (.cons t .nil)
mutual
def PT.pr (f : Int) : PT → Bool → PT
  | .node op id lo hi set text kids, pos =>
    if op = 0 then (if pos = true then zeroP else .node 6 0 0 0 [] ⟨#[]⟩ .nil)
    else if 1 ≤ op ∧ op ≤ 4 then (if id = f then (if pos = true then .node op id lo hi set text kids else notP (.node op id lo hi set text kids)) else zeroP)
    else if op = 7 then (match kids.prs f (!pos) with
      | .cons k .nil => k
      | _ => zeroP)
    else if op = 5 ∨ op = 6 then .node (if (decide (op = 6) == pos) = true then 6 else 5) 0 0 0 [] ⟨#[]⟩ (kids.prs f pos)
    else zeroP
def PTs.prs (f : Int) : PTs → Bool → PTs
  | .nil, _ => .nil
  | .cons t r, pos => .cons (t.pr f pos) (r.prs f pos)
end
mutual
def PT.good (f : Int) : PT → Prop
  | .node op id lo hi set text kids => op = 0 ∨ (1 ≤ op ∧ op ≤ 4 ∧ id = f) ∨ ((op = 5 ∨ op = 6) ∧ kids.goods f) ∨ (op = 7 ∧ kids.len = 1 ∧ kids.goods f)
def PTs.goods (f : Int) : PTs → Prop
  | .nil => True
  | .cons t r => t.good f ∧ r.goods f
end
def negS (x : Int) : Int := if x = 0 then 1 else if x = 1 then 0 else 2
/-- Two values that a predicate cannot tell apart. -/
def Alike (a b : Val) : Prop := a = b ∨ (a.1 = true ∧ b.1 = true)
theorem truthS_mem (b : Bool) : truthS b = 0 ∨ truthS b = 1 ∨ truthS b = 2 := by cases b <;> simp [truthS]
theorem simpleS_mem (op lo hi : Int) (set : List (List Value)) (text : ByteArray) (v : Val) : simpleS op lo hi set text v = 0 ∨ simpleS op lo hi set text v = 1 ∨ simpleS op lo hi set text v = 2 := by
  unfold simpleS
  split
  · exact truthS_mem _
  · split
    · simp
    · split
      · exact truthS_mem _
      · split <;> exact truthS_mem _
theorem evS_mem (op sv : Int) (y n m : Nat) (h : sv = 0 ∨ sv = 1 ∨ sv = 2) : evS op sv y n m = 0 ∨ evS op sv y n m = 1 ∨ evS op sv y n m = 2 := by
  unfold evS
  repeat' split
  all_goals first | exact h | exact truthS_mem _ | simp
theorem PT.ev_mem (v : Int → Val) (t : PT) : t.ev v = 0 ∨ t.ev v = 1 ∨ t.ev v = 2 := by
  cases t with
  | node op id lo hi set text kids =>
    unfold PT.ev
    exact evS_mem _ _ _ _ _ (simpleS_mem _ _ _ _ _ _)
theorem simpleS_alike {op lo hi : Int} {set : List (List Value)} {text : ByteArray} {a b : Val} (h : Alike a b) : simpleS op lo hi set text a = simpleS op lo hi set text b := by
  rcases h with rfl | ⟨h1, h2⟩
  · rfl
  · simp [simpleS, h1, h2]
theorem PTs.len_prs (f : Int) : ∀ (ks : PTs) (pos : Bool), (ks.prs f pos).len = ks.len
  | .nil, pos => by simp [PTs.prs, PTs.len]
  | .cons t r, pos => by simp [PTs.prs, PTs.len, PTs.len_prs f r pos]
theorem PTs.cnt_le (v : Int → Val) : ∀ (ks : PTs) (k : Int), ks.cnt v k ≤ ks.len
  | .nil, k => by simp [PTs.cnt, PTs.len]
  | .cons t r, k => by
    have := PTs.cnt_le v r k
    simp only [PTs.cnt, PTs.len]
    split <;> omega
def sgn (pos : Bool) (x : Int) : Int := if pos = true then x else negS x
theorem sgn_not (pos : Bool) {x : Int} (h : x = 0 ∨ x = 1 ∨ x = 2) : sgn (!pos) x = sgn pos (negS x) := by
  rcases h with rfl | rfl | rfl <;> cases pos <;> rfl
theorem sgn_cnt (pos : Bool) {x : Int} (h : x = 0 ∨ x = 1 ∨ x = 2) (k : Int) (hk : k = 0 ∨ k = 1) : (sgn pos x = k) ↔ (x = if pos = true then k else 1 - k) := by
  rcases h with rfl | rfl | rfl <;> rcases hk with rfl | rfl <;> cases pos <;> simp [sgn, negS]
theorem ev_not (v : Int → Val) (op id lo hi : Int) (set : List (List Value)) (text : ByteArray) (t : PT) (h7 : op = 7) : (PT.node op id lo hi set text (.cons t .nil)).ev v = negS (t.ev v) := by
  subst h7
  have hm := PT.ev_mem v t
  rw [PT.ev]
  simp only [PTs.cnt, PTs.len]
  rcases hm with h | h | h <;> simp [h, evS, negS, truthS]
mutual
theorem PT.law {f : Int} {v v' : Int → Val} (hv : Alike (v f) (v' f)) : ∀ (t : PT) (pos : Bool), t.good f → (t.pr f pos).ev v' = sgn pos (t.ev v)
  | .node op id lo hi set text kids, pos, hg => by
    unfold PT.good at hg
    unfold PT.pr
    rcases hg with rfl | ⟨h1, h2, rfl⟩ | ⟨h1, h2⟩ | ⟨rfl, h1, h2⟩
    · rw [if_pos rfl]
      cases pos <;> simp [PT.ev, evS, sgn, negS, PTs.cnt, PTs.len, truthS]
    · have e0 : ¬ op = 0 := by omega
      rw [if_neg e0, if_pos ⟨h1, h2⟩, if_pos rfl]
      have e1 : (PT.node op id lo hi set text kids).ev v' = (PT.node op id lo hi set text kids).ev v := by
        unfold PT.ev evS
        rw [if_neg e0, if_neg e0, if_pos ⟨h1, h2⟩, if_pos ⟨h1, h2⟩]
        exact (simpleS_alike hv).symm
      cases pos
      · have hm := PT.ev_mem v (PT.node op id lo hi set text kids)
        rw [if_neg (by decide)]
        have h3 := ev_not v' 7 0 0 0 [] ⟨#[]⟩ (PT.node op id lo hi set text kids) rfl
        rw [h3, e1]
        rfl
      · rw [if_pos rfl, e1]
        rfl
    · have e0 : ¬ op = 0 := by omega
      have e1 : ¬ (1 ≤ op ∧ op ≤ 4) := by omega
      have e2 : ¬ op = 7 := by omega
      rw [if_neg e0, if_neg e1, if_neg e2, if_pos h1]
      have hc := fun k hk => PTs.law hv kids pos h2 k hk
      have hl := PTs.len_prs f kids pos
      have hc1 := hc 1 (.inr rfl)
      have hc0 := hc 0 (.inl rfl)
      have b1 := PTs.cnt_le v kids 1
      have b0 := PTs.cnt_le v kids 0
      rcases h1 with rfl | rfl
      · cases pos
        · simp only [Bool.false_eq_true, if_false] at hc1 hc0
          simp only [show (decide ((5:Int) = 6) == false) = true from rfl, if_true, PT.ev, evS, hc1, hc0, hl]
          simp (config := {decide := true}) only [if_false, if_true, sgn]
          split <;> split <;> simp_all [truthS, negS] <;> (try split) <;> (try omega) <;> (try simp_all) <;> (try omega)
        · simp only [if_true] at hc1 hc0
          simp only [show (decide ((5:Int) = 6) == true) = false from rfl, Bool.false_eq_true, if_false, PT.ev, evS, hc1, hc0, hl]
          simp (config := {decide := true}) only [if_false, if_true, sgn]
      · cases pos
        · simp only [Bool.false_eq_true, if_false] at hc1 hc0
          simp only [show (decide ((6:Int) = 6) == false) = false from rfl, Bool.false_eq_true, if_false, PT.ev, evS, hc1, hc0, hl]
          simp (config := {decide := true}) only [if_false, if_true, sgn]
          split <;> split <;> simp_all [truthS, negS] <;> (try split) <;> (try omega) <;> (try simp_all) <;> (try omega)
        · simp only [if_true] at hc1 hc0
          simp only [show (decide ((6:Int) = 6) == true) = true from rfl, if_true, PT.ev, evS, hc1, hc0, hl]
          simp (config := {decide := true}) only [if_false, if_true, sgn]
    · rw [if_neg (by decide), if_neg (by decide), if_pos rfl]
      cases kids with
      | nil => cases h1
      | cons k r =>
        cases r with
        | cons a b => simp [PTs.len] at h1
        | nil =>
          unfold PTs.goods at h2
          have h3 := PT.law hv k (!pos) h2.1
          simp only [PTs.prs]
          rw [h3]
          have hm := PT.ev_mem v k
          rw [sgn_not pos hm]
          have h4 := ev_not v 7 id lo hi set text k rfl
          rw [h4]
theorem PTs.law {f : Int} {v v' : Int → Val} (hv : Alike (v f) (v' f)) : ∀ (ks : PTs) (pos : Bool), ks.goods f → ∀ k : Int, k = 0 ∨ k = 1 → (ks.prs f pos).cnt v' k = ks.cnt v (if pos = true then k else 1 - k)
  | .nil, pos, _, k, hk => by simp [PTs.prs, PTs.cnt]
  | .cons t r, pos, hg, k, hk => by
    unfold PTs.goods at hg
    have h1 := PT.law hv t pos hg.1
    have h2 := PTs.law hv r pos hg.2 k hk
    simp only [PTs.prs, PTs.cnt, h1, h2]
    have h3 := sgn_cnt pos (PT.ev_mem v t) k hk
    by_cases h : sgn pos (t.ev v) = k
    · rw [if_pos h, if_pos (h3.1 h)]
    · rw [if_neg h, if_neg (fun e => h (h3.2 e))]
end
/-! ### All the fields of a list have one number -/
def AllId (H : Snap) (A : Option Addr) (n : Nat) (f : Int) : Prop := ∀ i, i < n → HasCell H ((addrOf A).add (i * 4)) (.int .i64 f)
def RowId (xs : List Value) (n : Nat) (f : Int) : Prop := ∀ i, i < n → xs[i * 4]? = some (.int .i64 f)
theorem AllId.mono {H H' : Snap} {A : Option Addr} {n : Nat} {f : Int} (hle : SLe H H') (h : AllId H A n f) : AllId H' A n f := fun i hi => (h i hi).mono hle
theorem RowId.nil (f : Int) : RowId [] 0 f := fun i hi => absurd hi (Nat.not_lt_zero i)
theorem RowId.snoc {xs cs : List Value} {n : Nat} {f : Int} {v : Value} (h : RowId xs n f) (hl : xs.length = n * 4) (hv : Value.int .i64 f = v) : RowId (xs ++ v :: cs) (n + 1) f := fun i hi => by
  rcases Nat.lt_or_ge i n with h1 | h1
  · rw [List.getElem?_append_left (by rw [hl]; omega)]
    exact h i h1
  · have : i = n := by omega
    subst this
    rw [List.getElem?_append_right (by rw [hl]; exact Nat.le_refl _), hl, Nat.sub_self, hv]
    rfl
theorem AllId.at_ {H H' : Snap} {A : Option Addr} {n : Nat} {f z : Int} {i : Int} (h : AllId H A n f) (hle : SLe H H') (h0 : 0 ≤ i) (h1 : i < (n : Int)) (hc : HasCell H' ((addrOf A).add (i.toNat * 4)) (.int .i64 z)) : z = f := by
  have := HasCell.uniq ((h i.toNat (by omega)).mono hle) hc
  injection this with _ h2
  exact h2.symm
theorem good_zero (f id lo hi : Int) (set : List (List Value)) (text : ByteArray) (ks : PTs) : (PT.node 0 id lo hi set text ks).good f := by unfold PT.good; exact .inl rfl
theorem good_atom {op id lo hi f : Int} {set : List (List Value)} {text : ByteArray} {ks : PTs} (h : 1 ≤ op ∧ op ≤ 4) (hf : id = f) : (PT.node op id lo hi set text ks).good f := by unfold PT.good; exact .inr (.inl ⟨h.1, h.2, hf⟩)
theorem good_op {op id lo hi f : Int} {set : List (List Value)} {text : ByteArray} {ks : PTs} (h : op = 5 ∨ op = 6 ∨ (op = 7 ∧ ks.len = 1)) (hk : ks.goods f) : (PT.node op id lo hi set text ks).good f := by
  unfold PT.good
  rcases h with h | h | h
  · exact .inr (.inr (.inl ⟨.inl h, hk⟩))
  · exact .inr (.inr (.inl ⟨.inr h, hk⟩))
  · exact .inr (.inr (.inr ⟨h.1, h.2, hk⟩))
theorem goods_nil (f : Int) : PTs.nil.goods f := by unfold PTs.goods; trivial
theorem goods_one {t : PT} {f : Int} (h : t.good f) : (PTs.cons t PTs.nil).goods f := by unfold PTs.goods; exact ⟨h, goods_nil f⟩
theorem goods_snoc {f : Int} {t : PT} : ∀ {ks : PTs}, ks.goods f → t.good f → (ks.snoc t).goods f
  | .nil, _, h => by unfold PTs.snoc; exact goods_one h
  | .cons x r, h, h2 => by
    unfold PTs.goods at h
    unfold PTs.snoc PTs.goods
    exact ⟨h.1, goods_snoc h.2 h2⟩
section
variable {P : Program} {N : Nat} {w0 : World} {H0 H : Snap} {kx : List Ent} {fr : List (Nat × Value)} {kb : List Ent}
/-- A row handed over for good, its cells known by their places. -/
theorem Ok.pubS2 {G : Act → World → Prop} (i : Nat) {A : Option Addr} {cap n sz e : Nat} {xs : List Value} (hi : kb[i]? = some (.row (.slice A n cap) n sz e xs)) {el : List Sh} (hx : Elems H el n xs) (hn : n < 9223372036854775808) (kb' : List Ent) (he : kb.eraseIdx i = kb')
    (h : ∀ H', SLe H H' → WfS H' el A n → (∀ j u, xs[j]? = some u → HasCell H' ((addrOf A).add j) u) → Ok N w0 H0 kx H' fr kb' G) : Ok N w0 H0 kx H fr kb G :=
  Ok.pubRow i hi kb' he fun H' hle hb => by
    obtain ⟨hlen, ⟨hv, h0⟩ | ⟨g', cap', cur, hv, hH, _, _, _, htake⟩⟩ := hb
    · subst h0
      refine h H' hle (WfS.nil _ _) fun j u hj => ?_
      have hz := (List.getElem?_eq_some_iff.1 hj).1
      rw [hlen, Nat.zero_mul] at hz
      exact absurd hz (Nat.not_lt_zero j)
    · injection hv with hv
      subst hv
      have hp : Pre H' g' xs := ⟨cur, e, _, hH, by rw [hlen]; exact htake⟩
      refine h H' hle (WfS.of_pre hp (hx.mono hle) hn) fun j u hj => ?_
      have h4 := hp.cell _ hj
      rw [addrOf, Option.getD_some, addr_add, Nat.zero_add]
      exact h4
end
/-! ### Values of a row, and what the walks say of them -/
def valAt : List (List Value) → Int → Val
  | [], _ => (true, 0, ⟨#[]⟩)
  | cs :: r, id => match cs with
    | [.int _ i, .bool b, .int _ n, .string s] => if i = id then (b, n, s) else valAt r id
    | _ => valAt r id
def nrm (v : Val) : Val := if v.1 = true then (true, 0, ⟨#[]⟩) else v
theorem nrm_alike (v : Val) : Alike v (nrm v) := by
  unfold nrm
  split
  · rename_i h
    exact .inr ⟨h, rfl⟩
  · exact .inl rfl
theorem nrm_nrm (v : Val) : nrm (nrm v) = nrm v := by
  unfold nrm
  split
  · rfl
  · rfl
theorem valAt_cons (k k2 : IntKind) (i n id : Int) (b : Bool) (s : ByteArray) (r : List (List Value)) : valAt ([.int k i, .bool b, .int k2 n, .string s] :: r) id = if i = id then (b, n, s) else valAt r id := rfl
theorem withinS_cons (k : IntKind) (n m : Int) (b : Bool) (s u : ByteArray) (r : List (List Value)) : withinS n s ([.bool b, .int k m, .string u] :: r) = ((!b && (m == n && u.toList == s.toList)) || withinS n s r) := rfl
theorem PTs.cnt_cons (t : PT) (r : PTs) (v : Int → Val) (k : Int) : (PTs.cons t r).cnt v k = (if t.ev v = k then 1 else 0) + r.cnt v k := by simp only [PTs.cnt]
theorem LstIs.at_ {H : Snap} {el : List Sh} {A : Option Addr} {n : Nat} {l : List (List Value)} (h : LstIs H el A n l) (z : Int) (h0 : 0 ≤ z) (h1 : z < (n : Int)) :
    A.isSome = true ∧ ∃ cs, WfL H el cs ∧ (∀ j u, cs[j]? = some u → HasCell H (((addrOf A).add (z.toNat * el.length)).add j) u) ∧ l.drop z.toNat = cs :: l.drop (z.toNat + 1) := by
  have hz : z.toNat < l.length := by rw [h.1]; omega
  obtain ⟨h2, h3, h4⟩ := h.2.2 z.toNat _ (List.getElem?_eq_getElem hz)
  exact ⟨h2, _, h3, h4, List.drop_eq_getElem_cons hz⟩
theorem LstIs.lit {H : Snap} {el : List Sh} {b : Nat} {cs : List Value} (hp : Pre H b cs) (hw : WfL H el cs) : LstIs H el (some ⟨b, 0, none⟩) 1 [cs] := ⟨rfl, by decide, fun i ds hi => by
  have hi0 : i = 0 := by
    have := (List.getElem?_eq_some_iff.1 hi).1
    simpa using this
  subst hi0
  injection hi with hi
  subst hi
  refine ⟨rfl, hw, fun j u hj => ?_⟩
  have e : (((addrOf (some ⟨b, 0, none⟩)).add (0 * el.length)).add j) = ⟨b, j, none⟩ := by
    rw [add_add, addrOf, Option.getD_some, addr_add]
    simp
  rw [e]
  exact hp.cell _ hj⟩
def PTs.app : PTs → PTs → PTs
  | .nil, x => x
  | .cons t r, x => .cons t (r.app x)
theorem PTs.snoc_app : ∀ (ks : PTs) (t : PT) (x : PTs), (ks.snoc t).app x = ks.app (.cons t x)
  | .nil, t, x => rfl
  | .cons y r, t, x => by simp [PTs.snoc, PTs.app, PTs.snoc_app r t x]
theorem PTs.app_nil : ∀ ks : PTs, ks.app .nil = ks
  | .nil => rfl
  | .cons y r => by simp [PTs.app, PTs.app_nil r]
theorem PTs.prs_cons (f : Int) (t : PT) (r : PTs) (pos : Bool) : (PTs.cons t r).prs f pos = .cons (t.pr f pos) (r.prs f pos) := by simp only [PTs.prs]
theorem PTs.of_len0 {ks : PTs} (h : ks.len = 0) : ks = .nil := by
  cases ks with
  | nil => rfl
  | cons t r => cases h
section
variable {f op id lo hi : Int} {set : List (List Value)} {text : ByteArray} {ks : PTs} {pos : Bool}
theorem pr_true (h : op = 0) (hp : pos = true) : (PT.node op id lo hi set text ks).pr f pos = zeroP := by
  unfold PT.pr
  rw [if_pos h, if_pos hp]
theorem pr_false (h : op = 0) (hp : pos = false) : (PT.node op id lo hi set text ks).pr f pos = .node 6 0 0 0 [] ⟨#[]⟩ .nil := by
  unfold PT.pr
  rw [if_pos h, if_neg (by rw [hp]; decide)]
theorem pr_plus (h : 1 ≤ op ∧ op ≤ 4) (hf : id = f) (hp : pos = true) : (PT.node op id lo hi set text ks).pr f pos = .node op id lo hi set text ks := by
  unfold PT.pr
  rw [if_neg (by omega), if_pos h, if_pos hf, if_pos hp]
theorem pr_minus (h : 1 ≤ op ∧ op ≤ 4) (hf : id = f) (hp : pos = false) : (PT.node op id lo hi set text ks).pr f pos = notP (.node op id lo hi set text ks) := by
  unfold PT.pr
  rw [if_neg (by omega), if_pos h, if_pos hf, if_neg (by rw [hp]; decide)]
theorem pr_other (h : 1 ≤ op ∧ op ≤ 4) (hf : id ≠ f) : (PT.node op id lo hi set text ks).pr f pos = zeroP := by
  unfold PT.pr
  rw [if_neg (by omega), if_pos h, if_neg hf]
theorem pr_not (h : op = 7) {t : PT} {r : PTs} (hk : ks = .cons t r) (hl : ks.len = 1) : (PT.node op id lo hi set text ks).pr f pos = t.pr f (!pos) := by
  subst hk
  have hr : r = .nil := PTs.of_len0 (by simp only [PTs.len] at hl; omega)
  subst hr
  rw [PT.pr, if_neg (by omega), if_neg (by omega), if_pos h]
  simp only [PTs.prs]
theorem pr_not0 (h : op = 7) (hl : ks.len ≠ 1) : (PT.node op id lo hi set text ks).pr f pos = zeroP := by
  unfold PT.pr
  rw [if_neg (by omega), if_neg (by omega), if_pos h]
  have h2 := PTs.len_prs f ks (!pos)
  split
  · rename_i k hk
    rw [hk] at h2
    simp only [PTs.len] at h2
    omega
  · rfl
theorem pr_kids (h : op = 5 ∨ op = 6) {x : Int} {K R : PTs} (hk : K.app (R.prs f pos) = ks.prs f pos) (hR : R.len = 0) (hx : x = if (decide (op = 6) == pos) = true then 6 else 5) : (PT.node op id lo hi set text ks).pr f pos = .node x 0 0 0 [] ⟨#[]⟩ K := by
  unfold PT.pr
  rw [if_neg (by omega), if_neg (by omega), if_neg (by omega), if_pos h, ← hx, ← hk, PTs.of_len0 hR]
  simp only [PTs.prs, PTs.app_nil]
theorem pr_none (h : op < 0 ∨ 7 < op) : (PT.node op id lo hi set text ks).pr f pos = zeroP := by
  unfold PT.pr
  rw [if_neg (by omega), if_neg (by omega), if_neg (by omega), if_neg (by omega)]
end
/-! ### No list of operands is long -/
mutual
def PT.bnd : PT → Prop
  | .node _ _ _ _ _ _ kids => kids.len ≤ 16 ∧ kids.bnds
def PTs.bnds : PTs → Prop
  | .nil => True
  | .cons t r => t.bnd ∧ r.bnds
end
theorem bnd_node {op id lo hi : Int} {set : List (List Value)} {text : ByteArray} {ks : PTs} (h : ks.len ≤ 16) (k : ks.bnds) : (PT.node op id lo hi set text ks).bnd := by unfold PT.bnd; exact ⟨h, k⟩
theorem bnd_len {op id lo hi : Int} {set : List (List Value)} {text : ByteArray} {ks : PTs} (h : (PT.node op id lo hi set text ks).bnd) : ks.len ≤ 16 := by unfold PT.bnd at h; exact h.1
theorem bnd_kids {op id lo hi : Int} {set : List (List Value)} {text : ByteArray} {ks : PTs} (h : (PT.node op id lo hi set text ks).bnd) : ks.bnds := by unfold PT.bnd at h; exact h.2
theorem bnds_nil : PTs.nil.bnds := by unfold PTs.bnds; trivial
theorem bnds_hd {t : PT} {r : PTs} (h : (PTs.cons t r).bnds) : t.bnd := by unfold PTs.bnds at h; exact h.1
theorem bnds_tl {t : PT} {r : PTs} (h : (PTs.cons t r).bnds) : r.bnds := by unfold PTs.bnds at h; exact h.2
theorem bnds_one {t : PT} (h : t.bnd) : (PTs.cons t .nil).bnds := by unfold PTs.bnds; exact ⟨h, bnds_nil⟩
theorem bnds_snoc {t : PT} : ∀ {ks : PTs}, ks.bnds → t.bnd → (ks.snoc t).bnds
  | .nil, _, h => by unfold PTs.snoc; exact bnds_one h
  | .cons x r, h, h2 => by
    unfold PTs.snoc PTs.bnds
    exact ⟨bnds_hd h, bnds_snoc (bnds_tl h) h2⟩
theorem bnd_leaf {op id lo hi : Int} {set : List (List Value)} {text : ByteArray} : (PT.node op id lo hi set text .nil).bnd := bnd_node (by decide) bnds_nil
theorem bnd_nil {op id lo hi : Int} {set : List (List Value)} {text : ByteArray} {ks : PTs} (h : ks = .nil) : (PT.node op id lo hi set text ks).bnd := by rw [h]; exact bnd_leaf
theorem AllId.lit {H : Snap} {b : Nat} {z : Int} {cs : List Value} (h : Pre H b (.int .i64 z :: cs)) : AllId H (some ⟨b, 0, none⟩) 1 z := fun i hi => by
  have hi0 : i = 0 := by omega
  subst hi0
  have e : (addrOf (some ⟨b, 0, none⟩)).add (0 * 4) = ⟨b, 0, none⟩ := by rw [addrOf, Option.getD_some, addr_add]
  rw [e]
  exact h.cell 0 rfl
/-- The law of the statement, for one row. -/
theorem exact_law {f a b : Int} {t q : PT} {v v' : Int → Val} {x : Val} (hg : t.good f) (hq : q = t.pr f true) (h1 : a = t.ev v) (h2 : b = q.ev v') (hx : x = nrm (v f)) (hv : v' f = nrm x) : a = b := by
  have ha : Alike (v f) (v' f) := by
    rw [hv, hx, nrm_nrm]
    exact nrm_alike _
  rw [h1, h2, hq, PT.law ha t true hg]
  rfl
end Go.Proofs.YtdifenljfklolaaGreatDoor.Sx
