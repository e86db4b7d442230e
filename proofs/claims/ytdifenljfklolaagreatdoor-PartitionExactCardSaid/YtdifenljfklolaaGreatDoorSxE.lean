/- The engine's memory that stays, rows that grow (append), what is let go of. Plain theorems over any program. -/
import Derived.Test.YtdifenljfklolaaGreatDoorSxD
import Derived.Maps.AppendAt
import Derived.Lib.AppendStr
set_option linter.unusedVariables false
set_option linter.unusedSimpArgs false
namespace Go.Proofs.YtdifenljfklolaaGreatDoor.Sx
open Go Go.RowKit

abbrev pt (b o : Nat) : Value := .pointer (some ⟨b, o, none⟩)
abbrev sl (b o n c : Nat) : Value := .slice (some ⟨b, o, none⟩) n c
abbrev n0 : Value := .slice none 0 0
abbrev iw (n : Int) : Value := .int .i64 n
abbrev bT : Value := .bool true
abbrev bF : Value := .bool false
abbrev s0 : Value := .string ⟨#[]⟩
/-- The block holds these cells at its head, for good. -/
def Pre (H : Snap) (b : Nat) (xs : List Value) : Prop := ∃ cs t fr, H b = some (.cells cs t fr) ∧ cs.toList.take xs.length = xs
theorem Pre.mono {H H' : Snap} {b : Nat} {xs : List Value} (hle : SLe H H') (h : Pre H b xs) : Pre H' b xs := by
  obtain ⟨cs, t, fr, h1, h2⟩ := h
  exact ⟨cs, t, fr, hle _ _ h1, h2⟩
theorem take_at {α : Type} {l xs : List α} (h : l.take xs.length = xs) {i : Nat} {v : α} (hi : xs[i]? = some v) : l[i]? = some v := by
  rw [← h] at hi
  rw [List.getElem?_take] at hi
  split at hi
  · exact hi
  · cases hi
theorem Pre.cell {H : Snap} {b : Nat} {xs : List Value} (h : Pre H b xs) (i : Nat) {v : Value} (hi : xs[i]? = some v) : HasCell H ⟨b, i, none⟩ v := by
  obtain ⟨cs, t, fr, h1, h2⟩ := h
  exact ⟨cs, t, fr, h1, rfl, by rw [← Array.getElem?_toList]; exact take_at h2 hi⟩

section
variable {P : Program} {N : Nat} {w0 : World} {H0 H : Snap} {kx : List Ent} {fr : List (Nat × Value)} {kb : List Ent} {ops : Array Oper} {Q : Exit → Act → World → Prop}
theorem Ok.pubP {G : Act → World → Prop} (i : Nat) {b t : Nat} {cs : List Value} (hi : kb[i]? = some (.blk b cs t)) (kb' : List Ent) (he : kb.eraseIdx i = kb')
    (h : ∀ H', SLe H H' → Pre H' b cs → Ok N w0 H0 kx H' fr kb' G) : Ok N w0 H0 kx H fr kb G :=
  Ok.pub i hi kb' he fun H' hle hb => h H' hle ⟨_, _, _, hb, by simp⟩
theorem Ok.pubR {G : Act → World → Prop} (i : Nat) {g cap n sz e : Nat} {xs : List Value} (hi : kb[i]? = some (.row (.slice (some ⟨g, 0, none⟩) n cap) n sz e xs)) (kb' : List Ent) (he : kb.eraseIdx i = kb')
    (h : ∀ H', SLe H H' → Pre H' g xs → Ok N w0 H0 kx H' fr kb' G) : Ok N w0 H0 kx H fr kb G :=
  Ok.pubRow i hi kb' he fun H' hle hb => h H' hle (by
    obtain ⟨hlen, ⟨hv, _⟩ | ⟨g', cap', cur, hv, hH, _, _, _, htake⟩⟩ := hb
    · cases hv
    · injection hv with hv
      injection hv with hv
      injection hv with hv
      subst hv
      exact ⟨cur, e, _, hH, by rw [hlen]; exact htake⟩)
theorem Mem.dropAll {w : World} (h : Mem w0 H0 H (kb ++ kx) w) : Mem w0 H0 H ([] ++ kx) w :=
  { h with ents := fun e he => h.ents e (List.mem_append_right kb he), apart := (List.pairwise_append.1 h.apart).2.1 }
theorem Ok.dropAll {G : Act → World → Prop} (h : Ok N w0 H0 kx H fr [] G) : Ok N w0 H0 kx H fr kb G := fun a w hs hm => h a w hs hm.dropAll

def maskL : List Bool → List Ent → List Ent
  | true :: m, e :: r => e :: maskL m r
  | false :: m, e :: r => maskL m r
  | _, _ => []
theorem maskL_sub : ∀ (m : List Bool) (kb : List Ent), (maskL m kb).Sublist kb
  | [], kb => by simp [maskL]
  | true :: m, [] => by simp [maskL]
  | false :: m, [] => by simp [maskL]
  | true :: m, e :: r => by simpa [maskL] using (maskL_sub m r).cons_cons e
  | false :: m, e :: r => by simpa [maskL] using (maskL_sub m r).cons e
/-- Entries that nothing reaches any more are let go of. -/
theorem Ok.mask {G : Act → World → Prop} (m : List Bool) (kb' : List Ent) (he : maskL m kb = kb') (h : Ok N w0 H0 kx H fr kb' G) : Ok N w0 H0 kx H fr kb G := fun a w hs hm => by
  have hsub : (kb' ++ kx).Sublist (kb ++ kx) := by rw [← he]; exact (maskL_sub m kb).append_right kx
  exact h a w hs { hm with ents := fun e he => hm.ents e (hsub.subset he), apart := hm.apart.sublist hsub }
theorem Mem.dropL {w : World} {kp kb : List Ent} (h : Mem w0 H0 H ((kp ++ kb) ++ kx) w) : Mem w0 H0 H (kb ++ kx) w := by
  rw [List.append_assoc] at h
  exact { h with ents := fun e he => h.ents e (List.mem_append_right kp he), apart := (List.pairwise_append.1 h.apart).2.1 }
theorem Ok.dropL {G : Act → World → Prop} {kp : List Ent} (h : Ok N w0 H0 kx H fr kb G) : Ok N w0 H0 kx H fr (kp ++ kb) G := fun a w hs hm => h a w hs hm.dropL
theorem perm1 {kb kr : List Ent} (i : Nat) {e : Ent} (hi : kb[i]? = some e) (he : kb.eraseIdx i = kr) : kb.Perm ([e] ++ kr) := by
  subst he
  have hl := (List.getElem?_eq_some_iff.1 hi)
  have h1 : kb = kb.take i ++ e :: kb.drop (i + 1) := by
    rw [← hl.2, ← List.drop_eq_getElem_cons hl.1, List.take_append_drop]
  have h2 : kb.eraseIdx i = kb.take i ++ kb.drop (i + 1) := List.eraseIdx_eq_take_drop_succ kb i
  rw [h2]
  conv => lhs; rw [h1]
  exact List.perm_middle

/-- One entry that grew: in its place, or in the block that was made last. -/
theorem Mem.regrow {w w' : World} {kb : List Ent} (h : Mem w0 H0 H kb w) (i : Nat) {e e' : Ent} (hi : kb[i]? = some e) (hg : w.grownBy w' e.at_) (hl : e'.lies w0.heap.size w') (hat : e'.at_ = e.at_ ∨ e'.at_ = some w.heap.size) :
    Mem w0 H0 H (kb.set i e') w' := by
  have hmem : e ∈ kb := List.mem_of_getElem? hi
  have hlt := Ent.lies_lt (h.ents e hmem).1
  have hH := (h.ents e hmem).2
  have hil : i < kb.length := (List.getElem?_eq_some_iff.1 hi).1
  have hei : kb[i] = e := (List.getElem?_eq_some_iff.1 hi).2
  have ha : ∀ x ∈ kb.eraseIdx i, ∀ k, x.at_ = some k → some k ≠ e.at_ := fun x hx k hk he => erase_apart h.apart hi x hx k he.symm hk
  have hn : ∀ x ∈ kb, ∀ k, x.at_ = some k → k < w.heap.size := fun x hx k hk => (Ent.lies_lt (h.ents x hx).1 k hk).2
  have hother : ∀ (j : Nat) (hj : j < kb.length), i ≠ j → kb[j] ∈ kb.eraseIdx i := fun j hj hij => by
    rw [List.mem_eraseIdx_iff_getElem?]
    exact ⟨j, fun e => hij e.symm, List.getElem?_eq_getElem hj⟩
  have hapart : ∀ (j : Nat) (hj : j < kb.length), i ≠ j → ∀ k, e'.at_ = some k → (kb[j]).at_ ≠ some k := fun j hj hij k hk hk2 => by
    rcases hat with hat | hat
    · rw [hat] at hk
      exact ha _ (hother j hj hij) k hk2 hk.symm
    · rw [hat] at hk
      injection hk with hk
      have := hn _ (List.getElem_mem hj) k hk2
      omega
  refine ⟨h.below.trans ⟨hg.os, hg.tape, hg.output, hg.size, fun k hk => hg.block k (Nat.lt_of_lt_of_le hk h.below.size) (fun e1 => ?_)⟩, ?_, h.le, ?_, ?_⟩
  · have := (hlt k e1.symm).1
    omega
  · intro k o hk
    rw [hg.block k (h.holds.size hk) (fun e1 => by rw [hH k e1.symm] at hk; cases hk)]
    exact h.holds k o hk
  · intro x hx
    rcases List.getElem?_of_mem hx with ⟨j, hj⟩
    by_cases hij : i = j
    · subst hij
      rw [List.getElem?_set_self hil] at hj
      injection hj with hj
      subst hj
      refine ⟨hl, fun k hk => ?_⟩
      rcases hat with hat | hat
      · exact hH k (by rw [← hat]; exact hk)
      · rw [hat] at hk
        injection hk with hk
        exact h.holds.free (by omega)
    · rw [List.getElem?_set_ne hij] at hj
      have hjl : j < kb.length := (List.getElem?_eq_some_iff.1 hj).1
      have e2 : kb[j] = x := (List.getElem?_eq_some_iff.1 hj).2
      have hxm := List.mem_of_getElem? hj
      exact ⟨Ent.lies_kept (h.ents x hxm).1 _ hg (fun k hk => ha x (by rw [← e2]; exact hother j hjl hij) k hk), (h.ents x hxm).2⟩
  · rw [List.pairwise_iff_getElem]
    intro a b hal hbl hab k hk
    have hal' : a < kb.length := by simpa using hal
    have hbl' : b < kb.length := by simpa using hbl
    by_cases hia : i = a
    · subst hia
      rw [List.getElem_set_self] at hk
      rw [List.getElem_set_ne (by omega)]
      exact hapart b hbl' (by omega) k hk
    · rw [List.getElem_set_ne hia] at hk
      by_cases hib : i = b
      · subst hib
        rw [List.getElem_set_self]
        intro hk2
        exact hapart a hal' hia k hk2 hk
      · rw [List.getElem_set_ne hib]
        exact List.pairwise_iff_getElem.1 h.apart a b hal' hbl' hab k hk
theorem Mem.regrowL {w w' : World} (h : Mem w0 H0 H (kb ++ kx) w) (i : Nat) {e e' : Ent} (hi : kb[i]? = some e) (hg : w.grownBy w' e.at_) (hl : e'.lies w0.heap.size w') (hat : e'.at_ = e.at_ ∨ e'.at_ = some w.heap.size) :
    Mem w0 H0 H (kb.set i e' ++ kx) w' := by
  have hil : i < kb.length := (List.getElem?_eq_some_iff.1 hi).1
  have h1 := h.regrow i (by rw [List.getElem?_append_left hil]; exact hi) hg hl hat
  rwa [List.set_append_left _ _ hil] at h1
/-- A nil slice, as a row of nothing. -/
theorem Ok.nilRow {G : Act → World → Prop} (sz e : Nat) (h : Ok N w0 H0 kx H fr (kb ++ [.row (.slice none 0 0) 0 sz e []]) G) : Ok N w0 H0 kx H fr kb G := fun a w hs hm => by
  refine h a w hs ?_
  have h2 : Mem w0 H0 H ((kb ++ kx) ++ [.row (.slice none 0 0) 0 sz e []]) w := by
    refine { hm with ents := ?_, apart := ?_ }
    · intro x hx
      rcases List.mem_append.1 hx with hx | hx
      · exact hm.ents x hx
      · rw [List.mem_singleton] at hx
        subst hx
        exact ⟨World.ownsRow_nil w _ e sz, fun k hk => by cases hk⟩
    · rw [List.pairwise_append]
      refine ⟨hm.apart, List.pairwise_singleton _ _, fun a ha b hb k hk => ?_⟩
      rw [List.mem_singleton] at hb
      subst hb
      intro hk2
      cases hk2
  refine h2.perm ?_
  rw [List.append_assoc, List.append_assoc]
  exact List.Perm.append_left kb List.perm_append_comm

/-- Where the cells that are appended lie. -/
def Reads (H : Snap) (kb : List Ent) (ad : Addr) (news : List Value) : Prop := ∀ base w, Holds H w → Lies base kb w → ∀ j u, news[j]? = some u → w.cell? (ad.add j) = some u
theorem addr_add (b off j : Nat) : (⟨b, off, none⟩ : Addr).add j = ⟨b, off + j, none⟩ := by unfold Addr.add; split <;> simp_all
theorem reads_blk (i : Nat) {b t : Nat} {cs : List Value} (hi : kb[i]? = some (.blk b cs t)) (off m : Nat) : Reads H kb ⟨b, off, none⟩ ((cs.drop off).take m) := by
  intro base w hh hl j u hj
  have h1 : base ≤ b ∧ w.heap[b]? = some (.cells cs.toArray t (0, 0)) := hl _ (List.mem_of_getElem? hi)
  rw [addr_add, cell_of_blk h1.2]
  rw [List.getElem?_take] at hj
  split at hj
  · rw [List.getElem?_drop] at hj
    exact hj
  · cases hj
theorem reads_pre {b : Nat} {xs : List Value} (hp : Pre H b xs) (off m : Nat) : Reads H kb ⟨b, off, none⟩ ((xs.drop off).take m) := by
  intro base w hh hl j u hj
  rw [addr_add]
  rw [List.getElem?_take] at hj
  split at hj
  · rw [List.getElem?_drop] at hj
    exact has_cell hh (hp.cell _ hj)
  · cases hj
theorem reads_row (i : Nat) {g n cap sz e : Nat} {xs : List Value} (hi : kb[i]? = some (.row (.slice (some ⟨g, 0, none⟩) n cap) n sz e xs)) (off m : Nat) : Reads H kb ⟨g, off, none⟩ ((xs.drop off).take m) := by
  intro base w hh hl j u hj
  have hl1 : w.ownsRow base e sz (.slice (some ⟨g, 0, none⟩) n cap) n xs := hl _ (List.mem_of_getElem? hi)
  rw [addr_add]
  rw [List.getElem?_take] at hj
  split at hj
  · rw [List.getElem?_drop] at hj
    have := hl1.cells (g := g) rfl (off + j) u hj
    rw [addr_add, Nat.zero_add] at this
    exact this
  · cases hj
def appOf (N : Nat) (ops : Array Oper) (fr : List (Nat × Value)) : Option Oper → Option (Value × Value × Nat × Nat × Option Tmp)
  | some o => match wantG ops fr o, dstOk N o.dst, o.op with
    | some true, true, .call ⟨.builtin .append, ⟨[s, x]⟩, ⟨[t, u]⟩⟩ => match evO fr s, evO fr x with
      | some v, some y => some (v, y, t, u, o.dst)
      | _, _ => none
    | _, _, _ => none
  | none => none
def elemOk (P : Program) (t e sz : Nat) (total : Nat) : Bool := match P.underlying t with
  | some (.slice e') => match Nat.beq e' e, P.info? e with
    | true, some i => match i.zero with
      | some z => Nat.beq i.size sz && (Nat.beq z.cells.size sz && (Nat.ble 1 sz && Nat.ble (total * i.bytes) 140737488355328))
      | none => false
    | _, _ => false
  | _ => false
theorem elemOk_spec {t e sz total : Nat} (h : elemOk P t e sz total = true) : P.underlying t = some (.slice e) ∧ ∃ i z, P.info? e = some i ∧ i.zero = some z ∧ i.size = sz ∧ z.cells.size = sz ∧ 0 < sz ∧ total * i.bytes ≤ 140737488355328 := by
  unfold elemOk at h
  split at h <;> try (cases h; done)
  rename_i e' ht
  split at h <;> try (cases h; done)
  rename_i i he hi
  split at h <;> try (cases h; done)
  rename_i z hz
  simp only [Bool.and_eq_true] at h
  obtain ⟨h1, h2, h3, h4⟩ := h
  have he := Nat.eq_of_beq_eq_true he
  subst he
  exact ⟨ht, i, z, hi, hz, Nat.eq_of_beq_eq_true h1, Nat.eq_of_beq_eq_true h2, Nat.le_of_ble_eq_true h3, Nat.le_of_ble_eq_true h4⟩
theorem appOf_spec {o : Option Oper} {v y : Value} {t u : Nat} {d : Option Tmp} (h : appOf N ops fr o = some (v, y, t, u, d)) : ∃ o' s x, o = some o' ∧ o'.dst = d ∧ dstOk N d = true ∧ wantG ops fr o' = some true ∧ o'.op = .call { callee := .builtin .append, args := #[s, x], argTypes := #[t, u] } ∧ evO fr s = some v ∧ evO fr x = some y := by
  unfold appOf at h
  split at h <;> try (cases h; done)
  rename_i o'
  split at h <;> try (cases h; done)
  rename_i s x t' u' hw hd hop
  split at h <;> try (cases h; done)
  rename_i v' y' hs hx
  simp only [Option.some.injEq, Prod.mk.injEq] at h
  obtain ⟨rfl, rfl, rfl, rfl, rfl⟩ := h
  exact ⟨o', s, x, rfl, rfl, hd, hw, hop, hs, hx⟩
theorem oneCell'_all {l : List Value} (h : l.all oneCell = true) : ∀ u ∈ l, u.oneCell' = true := fun u hu => by
  have := List.all_eq_true.1 h u hu
  cases u <;> first | rfl | cases this
theorem Eff.append {G : Act → World → Prop} {o : Option Oper} (i : Nat) {v : Value} {n sz e : Nat} {xs : List Value} (hi : kb[i]? = some (.row v n sz e xs)) {t : Nat} {d : Option Tmp} {ad : Addr} {m c : Nat}
    (ho : appOf N ops fr o = some (v, .slice (some ad) m c, t, t, d)) (he : elemOk P t e sz (n + m) = true) (h63 : Nat.ble (n + m) 9223372036854775807 = true) (news : List Value) (hr : Reads H kb ad news) (hl : Nat.beq news.length (m * sz) = true) (h1 : news.all oneCell = true) (hpos : Nat.ble 1 (n + m) = true)
    (h : ∀ g cap, Ok N w0 H0 kx H (putF fr d (.slice (some ⟨g, 0, none⟩) (n + m) cap)) (kb.set i (.row (.slice (some ⟨g, 0, none⟩) (n + m) cap) (n + m) sz e (xs ++ news))) G) : Eff P N w0 H0 kx ops Q o H fr kb G := by
  obtain ⟨o', s, x, rfl, hd, hdk, hw, hop, hs, hx⟩ := appOf_spec ho
  obtain ⟨ht, inf, z, hinf, hz, hsz, hzs, hsp, hb⟩ := elemOk_spec he
  refine ⟨o', rfl, fun a w hsl hm => ⟨wantG_spec hw hsl, fun K hK => ?_⟩⟩
  have hown : w.ownsRow w0.heap.size e sz v n xs := (hm.ents _ (List.mem_append_left kx (List.mem_of_getElem? hi))).1
  obtain ⟨v', w', hrun, h2, h3, h4, h5⟩ := run_append_own_at (P := P) w w0.heap.size t o'.type e inf z sz inf.bytes ht hinf hz hsz rfl hzs hsp v n xs hown ad m c news (Nat.eq_of_beq_eq_true hl)
    (hr _ w hm.holds hm.liesL) (oneCell'_all h1) (by have := Nat.le_of_ble_eq_true h63; simpa [maxLen] using this) hb hm.below.size
  have h2' := h2
  rcases h2.2 with ⟨hv, hn⟩ | ⟨g, cap, cur, hv, _⟩
  · have := Nat.le_of_ble_eq_true hpos
    omega
  · subst hv
    unfold Oper.wp execOp
    simp only [hop, resolve, invoke, builtin, Sem.run_bind, Sem.run_pure, Result.andThen_ok, List.map_toArray, List.map_cons, List.map_nil, hsl.ev hs, hsl.ev hx, hrun]
    subst hd
    refine hK _ _ (h g cap _ _ (hsl.put (dstOk_spec hdk) _) ?_)
    exact hm.regrowL i hi (e' := .row (.slice (some ⟨g, 0, none⟩) (n + m) cap) (n + m) sz e (xs ++ news)) h3 h2' h5
theorem Ok.permK {G : Act → World → Prop} {kb' : List Ent} (hp : kb.Perm kb') (h : Ok N w0 H0 kx H fr kb' G) : Ok N w0 H0 kx H fr kb G := fun a w hs hm => h a w hs (hm.perm (hp.append_right kx))
/-- Many orders at once: a relation that each operation keeps, whichever comes up. -/
theorem Ok.orders {ds : List Nat} {Hs : Snap} {fuel0 : Nat} (I : Nat → List Bool → Snap → List (Nat × Value) → List Ent → Prop)
    (stop : ∀ l H fr kb, SLe Hs H → I 0 l H fr kb → OkD P N w0 H0 kx ops Q ds Hs [] fuel0 l H fr kb)
    (step : ∀ m l H fr kb, I (m + 1) l H fr kb → SLe Hs H → Region.ready .any ops l.toArray ≠ [] ∧ ∀ i ∈ Region.ready .any ops l.toArray, ds.contains i = false ∧
      Eff P N w0 H0 kx ops Q ops[i]? H fr kb (fun a w => ∃ H' fr' kb', SLe Hs H' ∧ I m (l.set i true) H' fr' kb' ∧ Slots N fr' a ∧ Mem w0 H0 H' (kb' ++ kx) w)) :
    ∀ m l H fr kb, SLe Hs H → I m l H fr kb → OkD P N w0 H0 kx ops Q ds Hs [] (fuel0 + m) l H fr kb := by
  intro m
  induction m with
  | zero => exact fun l H fr kb hle h => stop l H fr kb hle h
  | succ m ih =>
    intro l H fr kb hle h a w hs hm hS
    obtain ⟨hne, h1⟩ := step m l H fr kb h hle
    refine Go.Proofs.YtdifenljfklolaaGreatDoorW.PrintLast.wpAnyLast_ready rfl hne (fun i hi => ?_)
    obtain ⟨hd, o, ho, he⟩ := h1 i hi
    obtain ⟨hw, hK⟩ := he a w hs hm
    refine (Go.Proofs.YtdifenljfklolaaGreatDoorW.PrintLast.AllReadyL.cons (rs := []) ho (by simpa using hd) (fun K hK' => ?_) Go.Proofs.YtdifenljfklolaaGreatDoorW.PrintLast.AllReadyL.nil) i (List.mem_singleton_self i)
    rw [if_pos hw]
    refine hK K fun a w ⟨H', fr', kb', hle', hI, hs', hm'⟩ => ?_
    have hS' : SM w0.heap.size Hs [] w := ⟨fun k o hk => hm'.holds k o (hle' k o hk), fun e he => by cases he⟩
    refine hK'.out a w hS' fun _ => ?_
    have := ih (l.set i true) H' fr' kb' hle' hI a w hs' hm' hS'
    simpa using this
/-- One operation by evaluation, the frame not cut: for a frame or a memory that is not known to its end. -/
theorem Eff.opF {G : Act → World → Prop} {o : Option Oper} (hh : OpH) (fr' : Nat → List (Nat × Value)) (kb' : Nat → List Ent)
    (h : ∀ b, (match o with | some o' => (match wantG ops fr o' with | some true => (match opGo P H N ops fr kb b o' hh with | some s => some (⟨s.fr, s.kb, s.E, s.ex⟩ : Fin) | none => none) | _ => none) | none => none) = some ⟨fr' b, kb' b, [], []⟩)
    (hk : ∀ b, Ok N w0 H0 kx H (fr' b) (kb' b) G) : Eff P N w0 H0 kx ops Q o H fr kb G := by
  cases o with
  | none => cases h 0
  | some o' =>
    refine ⟨o', rfl, fun a w hs hm => ?_⟩
    have h1 := h w.heap.size
    simp only at h1
    split at h1 <;> try (cases h1; done)
    rename_i hw
    split at h1 <;> try (cases h1; done)
    rename_i s hop
    injection h1 with h1
    injection h1 with e1 e2 e3 e4
    rcases opGo_run hs hm hop (by rw [e3]; trivial) (by rw [e4]; trivial) with ⟨h2, _⟩ | ⟨h2, a', w', a1, a2, a3, a4⟩
    · rw [wantG_spec hw hs] at h2
      cases h2
    · refine ⟨h2, fun K hK => a4 K Q (hK _ _ (hk w.heap.size a' w' (by rw [← e1]; exact a1) (by rw [← e2]; exact a2)))⟩
theorem mem_rm : ∀ {l : List (Nat × Value)} {t : Nat} {p : Nat × Value}, p ∈ l → p.1 ≠ t → p ∈ rm l t
  | [], _, _, h, _ => by cases h
  | q :: r, t, p, h, hne => by
    unfold rm
    split
    · rename_i e
      rcases List.mem_cons.1 h with rfl | h
      · exact absurd (Nat.eq_of_beq_eq_true e) hne
      · exact mem_rm h hne
    · rcases List.mem_cons.1 h with rfl | h
      · exact List.mem_cons_self
      · exact List.mem_cons_of_mem _ (mem_rm h hne)
/-- Variables that are laid in an order that is not known: slot s + j holds block p. -/
def AF : Nat → List (Option Nat) → List (Nat × Value)
  | _, [] => []
  | s, some p :: r => (s, pt p 0) :: AF (s + 1) r
  | s, none :: r => AF (s + 1) r
def AK (zs : List Value) (t : Nat) : List (Option Nat) → List Ent
  | [] => []
  | some p :: r => .blk p zs t :: AK zs t r
  | none :: r => AK zs t r
def nones : List (Option Nat) → Nat
  | [] => 0
  | some _ :: r => nones r
  | none :: r => nones r + 1
theorem AF_slot : ∀ {os : List (Option Nat)} {s : Nat} {p : Nat × Value}, p ∈ AF s os → s ≤ p.1 ∧ p.1 < s + os.length
  | [], _, _, h => by cases h
  | some q :: r, s, p, h => by
    rcases List.mem_cons.1 h with rfl | h
    · simp
    · have := AF_slot h
      simp only [List.length_cons]
      omega
  | none :: r, s, p, h => by
    have := AF_slot (os := r) (s := s + 1) h
    simp only [List.length_cons]
    omega
theorem AF_set : ∀ {os : List (Option Nat)} {s j b : Nat} {p : Nat × Value}, os[j]? = some none → p ∈ AF s (os.set j (some b)) → p = (s + j, pt b 0) ∨ (p ∈ AF s os ∧ p.1 ≠ s + j)
  | [], _, _, _, _, h, _ => by simp at h
  | o :: r, s, 0, b, p, h, hp => by
    simp only [List.getElem?_cons_zero, Option.some.injEq] at h
    subst h
    rcases List.mem_cons.1 hp with rfl | hp
    · exact .inl rfl
    · exact .inr ⟨hp, by have := AF_slot hp; omega⟩
  | o :: r, s, j + 1, b, p, h, hp => by
    have h' : r[j]? = some none := by simpa using h
    cases o with
    | some q =>
      rcases List.mem_cons.1 hp with rfl | hp
      · exact .inr ⟨List.mem_cons_self, by simp⟩
      · rcases AF_set (s := s + 1) h' hp with rfl | ⟨h1, h2⟩
        · exact .inl (by rw [Nat.add_assoc, Nat.add_comm 1 j])
        · exact .inr ⟨List.mem_cons_of_mem _ h1, by omega⟩
    | none =>
      rcases AF_set (s := s + 1) h' hp with rfl | ⟨h1, h2⟩
      · exact .inl (by rw [Nat.add_assoc, Nat.add_comm 1 j])
      · exact .inr ⟨h1, by omega⟩
theorem AK_set {zs : List Value} {t : Nat} : ∀ {os : List (Option Nat)} {j b : Nat}, os[j]? = some none → (AK zs t os ++ [Ent.blk b zs t]).Perm (AK zs t (os.set j (some b)))
  | [], _, _, h => by simp at h
  | o :: r, 0, b, h => by
    simp only [List.getElem?_cons_zero, Option.some.injEq] at h
    subst h
    exact List.perm_append_comm
  | o :: r, j + 1, b, h => by
    have h' : r[j]? = some none := by simpa using h
    cases o with
    | some q => exact (AK_set (os := r) h').cons _
    | none => exact AK_set (os := r) h'
theorem nones_set : ∀ {os : List (Option Nat)} {j b : Nat}, os[j]? = some none → nones (os.set j (some b)) + 1 = nones os
  | [], _, _, h => by simp at h
  | o :: r, 0, b, h => by
    simp only [List.getElem?_cons_zero, Option.some.injEq] at h
    subst h
    rfl
  | o :: r, j + 1, b, h => by
    have h' : r[j]? = some none := by simpa using h
    cases o with
    | some q => exact nones_set (os := r) h'
    | none => simp only [List.set_cons_succ, nones]; rw [← nones_set (os := r) h']
theorem Slots.callAF {d s : Nat} {v : Value} {x fr' : List (Nat × Value)} {os : List (Option Nat)} {a : Act} (h : Slots N (putF (x ++ AF s os) (some d) v) a) (keep : List Nat) (hr : restrF (putF x (some d) v) keep = fr') (hd : s + os.length ≤ d) : Slots N (fr' ++ AF s os) a := h.sub fun p hp => by
  rcases List.mem_append.1 hp with hp | hp
  · rw [← hr] at hp
    have := restrF_mem hp
    rcases List.mem_cons.1 this with rfl | h1
    · exact List.mem_cons_self
    · obtain ⟨h2, h3⟩ := rm_mem h1
      exact List.mem_cons_of_mem _ (mem_rm (List.mem_append_left _ h2) h3)
  · exact List.mem_cons_of_mem _ (mem_rm (List.mem_append_right _ hp) (by have := AF_slot hp; omega))
theorem Slots.setAF {s j b : Nat} {x : List (Nat × Value)} {os : List (Option Nat)} {a : Act} (h : Slots N (putF (x ++ AF s os) (some (s + j)) (pt b 0)) a) (hj : os[j]? = some none) (hx : (x.all fun p => !(Nat.beq p.1 (s + j))) = true) : Slots N (x ++ AF s (os.set j (some b))) a := h.sub fun p hp => by
  rcases List.mem_append.1 hp with hp | hp
  · refine List.mem_cons_of_mem _ (mem_rm (List.mem_append_left _ hp) fun e => ?_)
    have := List.all_eq_true.1 hx p hp
    rw [e] at this
    simp at this
  · rcases AF_set hj hp with rfl | ⟨h1, h2⟩
    · exact List.mem_cons_self
    · exact List.mem_cons_of_mem _ (mem_rm (List.mem_append_right _ h1) h2)
end
end Go.Proofs.YtdifenljfklolaaGreatDoor.Sx
