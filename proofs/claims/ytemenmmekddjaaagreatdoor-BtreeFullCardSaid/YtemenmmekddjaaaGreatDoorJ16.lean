/- What the room, the devices and their sectors are, as plain values. No condition. Trees of pages as plain lists: what a tree over pages holds, how far it can grow. No condition. -/
set_option linter.all false
set_option linter.unusedVariables false
set_option linter.unusedSimpArgs false
set_option linter.unnecessarySimpa false
set_option linter.unusedSectionVars false
set_option linter.constructorNameAsVariable false
section
namespace Go.Proofs.YtemenmmekddjaaaGreatDoor
/-- how many bits are set. -/
def bitsIn (n : Nat) (f : Nat → Bool) : Nat := (List.range n).countP f
/-- the first number from s on, below n, of which p is true. -/
def FirstAt (n : Nat) (p : Nat → Bool) (s : Nat) : Option Nat → Prop
  | some j => s ≤ j ∧ j < n ∧ p j = true ∧ ∀ i, s ≤ i → i < j → p i = false
  | none => ∀ i, s ≤ i → i < n → p i = false
/-- a device: its state and size, and its sectors that are taken, fresh, given. -/
structure Dev where
  state : Int
  size : Nat
  tk : Nat → Bool
  fr : Nat → Bool
  gv : Nat → Bool
def Dev.used (d : Dev) : Nat := bitsIn d.size d.tk + bitsIn d.size d.gv
/-- how many are free. -/
def Dev.free (d : Dev) : Int := (d.size : Int) - 2 - (d.used : Int)
/-- the device and the sector of an address. -/
def atOf (a : Int) : Int × Int := if 0 ≤ a ∧ a < 32768 then (a / 4096, a % 4096) else (-1, -1)
/-- the address of a sector of the room. -/
def inRoom (ds : List Dev) (a : Int) : Option (Nat × Nat) :=
  if 0 ≤ (atOf a).1 then (match ds[(atOf a).1.toNat]? with
    | some d => if d.state ≠ 3 ∧ 2 ≤ (atOf a).2 ∧ (atOf a).2 < d.size then some ((atOf a).1.toNat, (atOf a).2.toNat) else none
    | none => none) else none
theorem atOf_nonneg {a : Int} (h : 0 ≤ (atOf a).1) : (0 ≤ a ∧ a < 32768) ∧ atOf a = (a / 4096, a % 4096) := by
  unfold atOf at *
  split at h
  · rename_i h'; exact ⟨h', if_pos h'⟩
  · simp at h
theorem atOf_ge (a : Int) : -1 ≤ (atOf a).1 ∧ (atOf a).1 < 8 ∧ -1 ≤ (atOf a).2 ∧ (atOf a).2 < 4096 := by
  unfold atOf
  split <;> simp <;> omega
/-- was a fresh address taken ahead of Begin? -/
def elderAt (was : Option (List Dev)) (i j : Nat) : Bool := match was with
  | some ws => match ws[i]? with
    | some d => d.tk j && d.fr j
    | none => false
  | none => false
def off (f : Nat → Bool) (j : Nat) : Nat → Bool := fun x => f x && !decide (x = j)
def on (f : Nat → Bool) (j : Nat) : Nat → Bool := fun x => f x || decide (x = j)
def Dev.give (d : Dev) (e : Bool) (j : Nat) : Dev := if d.fr j && !e then { d with tk := off d.tk j, fr := off d.fr j } else { d with tk := off d.tk j, gv := on d.gv j }
def Dev.take (d : Dev) (j : Nat) : Dev := { d with tk := on d.tk j, fr := on d.fr j }
theorem inRoom_some {ds : List Dev} {a : Int} {i j : Nat} (h : inRoom ds a = some (i, j)) : ∃ hi : i < ds.length, a = i * 4096 + j ∧ 2 ≤ j ∧ j < ds[i].size ∧ ds[i].state ≠ 3 ∧ 0 ≤ a ∧ a < 32768 ∧ (a / 4096).toNat = i ∧ (a % 4096).toNat = j := by
  unfold inRoom at h
  split at h
  · rename_i h0
    obtain ⟨h1, h2⟩ := atOf_nonneg h0
    rw [h2] at h
    dsimp only at h
    split at h
    · rename_i d hd
      obtain ⟨hl, rfl⟩ := List.getElem?_eq_some_iff.1 hd
      split at h
      · rename_i hc
        simp only [Option.some.injEq, Prod.mk.injEq] at h
        obtain ⟨rfl, rfl⟩ := h
        refine ⟨hl, by omega, by omega, by omega, hc.1, h1.1, h1.2, rfl, rfl⟩
      · cases h
    · cases h
  · cases h
/-- the numbers of the devices that take something new. -/
def actives (ds : List Dev) : List Nat := (List.range ds.length).filter fun i => decide ((ds[i]?.map Dev.state) = some 1)
def freeAt (ds : List Dev) (i : Nat) : Int := match ds[i]? with
  | some d => d.free
  | none => 0
def freeSum (ds : List Dev) : Int := ((actives ds).map (freeAt ds)).sum
/-- the device with most room, and how much. -/
def best (ds : List Dev) (l : List Nat) : Nat × Int := l.foldl (fun a i => if freeAt ds i > a.2 then (i, freeAt ds i) else a) (0, 0)
/-- a sector: what it holds for good, what waits, and is it bad? -/
structure Sec where
  good : List Nat
  wait : List (List Nat)
  bad : Bool
theorem bitsIn_le (n : Nat) (f : Nat → Bool) : bitsIn n f ≤ n := by
  unfold bitsIn
  exact Nat.le_trans List.countP_le_length (by simp)
theorem bitsIn_add (m n : Nat) (f : Nat → Bool) : bitsIn (m + n) f = bitsIn m f + bitsIn n (fun i => f (m + i)) := by
  unfold bitsIn
  rw [List.range_add, List.countP_append, List.countP_map]; rfl
theorem actives_lt {ds : List Dev} {i : Nat} (h : i ∈ actives ds) : ∃ hi : i < ds.length, ds[i].state = 1 := by
  unfold actives at h
  obtain ⟨h1, h2⟩ := List.mem_filter.1 h
  have hi := List.mem_range.1 h1
  refine ⟨hi, ?_⟩
  rw [List.getElem?_eq_getElem hi] at h2
  simpa using h2
theorem actives_len (ds : List Dev) : (actives ds).length ≤ ds.length := by
  unfold actives
  exact Nat.le_trans (List.length_filter_le _ _) (by simp)
theorem best_spec (ds : List Dev) : ∀ (l : List Nat), 0 ≤ (best ds l).2 ∧ (∀ i ∈ l, freeAt ds i ≤ (best ds l).2) ∧ (0 < (best ds l).2 → (best ds l).1 ∈ l ∧ freeAt ds (best ds l).1 = (best ds l).2) := by
  intro l
  unfold best
  suffices h : ∀ (l : List Nat) (pre : List Nat) (a : Nat × Int), 0 ≤ a.2 → (∀ i ∈ pre, freeAt ds i ≤ a.2) → (0 < a.2 → a.1 ∈ pre ∧ freeAt ds a.1 = a.2) →
      let r := l.foldl (fun a i => if freeAt ds i > a.2 then (i, freeAt ds i) else a) a
      0 ≤ r.2 ∧ (∀ i ∈ pre ++ l, freeAt ds i ≤ r.2) ∧ (0 < r.2 → r.1 ∈ pre ++ l ∧ freeAt ds r.1 = r.2) by
    simpa using h l [] (0, 0) (by simp) (by simp) (by simp)
  intro l
  induction l with
  | nil => intro pre a h0 h1 h2; simpa using ⟨h0, h1, h2⟩
  | cons i l ih =>
    intro pre a h0 h1 h2
    have := ih (pre ++ [i]) (if freeAt ds i > a.2 then (i, freeAt ds i) else a) ?_ ?_ ?_
    · simpa using this
    · split
      · show 0 ≤ freeAt ds i; omega
      · exact h0
    · intro x hx
      rcases List.mem_append.1 hx with hx | hx
      · have := h1 x hx
        split
        · show _ ≤ freeAt ds i; omega
        · exact this
      · obtain rfl : x = i := by simpa using hx
        split
        · exact Int.le_refl _
        · omega
    · split
      · intro _; simp
      · intro h; have := h2 h; simp [this.1, this.2]
theorem free_some {n : Nat} {f g : Nat → Bool} (h : bitsIn n f + bitsIn n g + 2 < n) : ∃ x, 2 ≤ x ∧ x < n ∧ f x = false ∧ g x = false := by
  apply Classical.byContradiction
  intro hno
  have hall : ∀ x, 2 ≤ x → x < n → (f x || g x) = true := by
    intro x h1 h2
    cases hf : f x with
    | true => rfl
    | false =>
      cases hg : g x with
      | true => rfl
      | false => exact absurd ⟨x, h1, h2, hf, hg⟩ hno
  have h1 : bitsIn n (fun x => f x || g x) ≤ bitsIn n f + bitsIn n g := by
    unfold bitsIn
    generalize List.range n = l
    induction l with
    | nil => simp
    | cons a l ih => simp only [List.countP_cons]; cases f a <;> cases g a <;> simp <;> omega
  obtain ⟨m, rfl⟩ : ∃ m, n = 2 + m := ⟨n - 2, by omega⟩
  rw [bitsIn_add 2 m (fun x => f x || g x)] at h1
  have h2 : bitsIn m (fun i => f (2 + i) || g (2 + i)) = m := by
    unfold bitsIn
    have := (List.countP_eq_length (l := List.range m) (p := fun i => f (2 + i) || g (2 + i))).2 fun i hi => hall _ (by omega) (by have := List.mem_range.1 hi; omega)
    rw [this]; simp
  rw [h2] at h1
  omega
end Go.Proofs.YtemenmmekddjaaaGreatDoor
end
section
namespace Go.Proofs.YtemenmmekddjaaaGreatDoor
/-- a key and a value. -/
abbrev Pr := Int × Int
def Srt (l : List Pr) : Prop := l.Pairwise fun a b => a.1 < b.1
structure Nd where
  lv : Nat
  l : List Pr
def PrOk (e : Pr) : Prop := 0 ≤ e.1 ∧ e.1 ≤ 1099511627776 ∧ 1 ≤ e.2 ∧ e.2 ≤ 2305843009213693952
def NdOk (n : Nd) : Prop := n.lv ≤ 20 ∧ 1 ≤ n.l.length ∧ n.l.length ≤ 7 ∧ Srt n.l ∧ ∀ e ∈ n.l, PrOk e
def kids (n : Nd) : List Int := if n.lv = 0 then [] else n.l.map Prod.snd
def hd? (L : List Pr) : Option Int := L.head?.map Prod.fst
/-- the trees below a row of pairs; the last number: what their pages have beyond four pairs, each page by its level. -/
inductive Ts (P : Int → List Pr → Nat → Nat → Prop) (n : Nat) : List Pr → List Pr → Nat → Prop
  | nil : Ts P n [] [] 0
  | cons {k v : Int} {s c : Nat} {L1 l L2 : List Pr} {u : Nat} (h : P v L1 s c) (hk : hd? L1 = some k) (t : Ts P n l L2 u) : Ts P n ((k, v) :: l) (L1 ++ L2) ((s - 4) * 4 ^ n + c + u)
/-- the page a is a tree of level n with the items L; it has s pairs; c: what the pages below it have beyond four. -/
def T (M : Int → Option Nd) : Nat → Int → List Pr → Nat → Nat → Prop
  | 0, a, L, s, c => M a = some ⟨0, L⟩ ∧ s = L.length ∧ c = 0
  | n + 1, a, L, s, c => ∃ l, M a = some ⟨n + 1, l⟩ ∧ s = l.length ∧ Ts (T M n) n l L c
section
variable {P Q : Int → List Pr → Nat → Nat → Prop} {n : Nat} {M M' : Int → Option Nd}
theorem Ts.mono {l L : List Pr} {u : Nat} (h : Ts P n l L u) (hm : ∀ e ∈ l, ∀ L s c, P e.2 L s c → Q e.2 L s c) : Ts Q n l L u := by
  induction h with
  | nil => exact .nil
  | @cons k v s c L1 l L2 u h hk t ih => exact .cons (hm (k, v) (by simp) _ _ _ h) hk (ih fun e he => hm e (by simp [he]))
theorem Ts.append {l1 L1 l2 L2 : List Pr} {u1 u2 : Nat} (h1 : Ts P n l1 L1 u1) (h2 : Ts P n l2 L2 u2) : Ts P n (l1 ++ l2) (L1 ++ L2) (u1 + u2) := by
  induction h1 with
  | nil => simpa using h2
  | @cons k v s c L1 l L2' u h hk t ih =>
    rw [List.append_assoc, show (s - 4) * 4 ^ n + c + u + u2 = (s - 4) * 4 ^ n + c + (u + u2) by omega]
    exact .cons h hk ih
theorem Ts.split : ∀ {l1 l2 L : List Pr} {u : Nat}, Ts P n (l1 ++ l2) L u → ∃ L1 L2 u1 u2, L = L1 ++ L2 ∧ u = u1 + u2 ∧ Ts P n l1 L1 u1 ∧ Ts P n l2 L2 u2
  | [], l2, L, u, h => ⟨[], L, 0, u, rfl, by omega, .nil, h⟩
  | e :: l1, l2, L, u, h => by
    cases h with
    | @cons k v s c L1 _ L2 u h hk t =>
      obtain ⟨A, B, u1, u2, rfl, rfl, h1, h2⟩ := Ts.split t
      exact ⟨L1 ++ A, B, _, u2, by simp, by omega, .cons h hk h1, h2⟩
theorem Ts.one {k v : Int} {s c : Nat} {L : List Pr} (h : P v L s c) (hk : hd? L = some k) : Ts P n [(k, v)] L ((s - 4) * 4 ^ n + c) := by
  have := Ts.cons (n := n) h hk .nil
  simpa using this
theorem Ts.uncons {k v : Int} {l L : List Pr} {u : Nat} (h : Ts P n ((k, v) :: l) L u) : ∃ L1 L2 s c u', P v L1 s c ∧ hd? L1 = some k ∧ Ts P n l L2 u' ∧ L = L1 ++ L2 ∧ u = (s - 4) * 4 ^ n + c + u' := by
  cases h with
  | cons h hk t => exact ⟨_, _, _, _, _, h, hk, t, rfl, rfl⟩
theorem Ts.hd {l L : List Pr} {u : Nat} (h : Ts P n l L u) : hd? L = hd? l := by
  cases h with
  | nil => rfl
  | @cons k v s c L1 l L2 u h hk t =>
    cases L1 with
    | nil => simp [hd?] at hk
    | cons x L1 => simpa [hd?] using hk
theorem Ts.nil_iff {l L : List Pr} {u : Nat} (h : Ts P n l L u) : L = [] ↔ l = [] := by
  cases h with
  | nil => simp
  | @cons k v s c L1 l L2 u h hk t =>
    cases L1 with
    | nil => simp [hd?] at hk
    | cons x L1 => simp
theorem Ts.len {l L : List Pr} {u : Nat} (h : Ts P n l L u) : l.length ≤ L.length := by
  induction h with
  | nil => simp
  | @cons k v s c L1 l L2 u h hk t ih =>
    cases L1 with
    | nil => simp [hd?] at hk
    | cons x L1 => simp; omega
theorem Ts.mem {l L : List Pr} {u : Nat} (h : Ts P n l L u) {e : Pr} (he : e ∈ l) : ∃ L1 s c, P e.2 L1 s c ∧ hd? L1 = some e.1 ∧ (s - 4) * 4 ^ n + c ≤ u ∧ L1.Sublist L := by
  induction h with
  | nil => simp at he
  | @cons k v s c L1 l L2 u h hk t ih =>
    rcases List.mem_cons.1 he with rfl | he
    · exact ⟨L1, s, c, h, hk, by omega, List.sublist_append_left _ _⟩
    · obtain ⟨L1', s', c', h1, h2, h3, h4⟩ := ih he
      exact ⟨L1', s', c', h1, h2, by omega, h4.trans (List.sublist_append_right _ _)⟩
/-- the keys of a row are those at the heads: they rise as the items do. -/
theorem Ts.srt {l L : List Pr} {u : Nat} (h : Ts P n l L u) (hs : Srt L) : Srt l := by
  induction h with
  | nil => exact .nil
  | @cons k v s c L1 l L2 u h hk t ih =>
    have h12 := List.pairwise_append.1 hs
    refine List.Pairwise.cons (fun e he => ?_) (ih h12.2.1)
    obtain ⟨L3, s', c', _, h2, _, h4⟩ := t.mem he
    match L1, hk, h12 with
    | x :: L1, hk, h12 =>
      match L3, h2, h4 with
      | y :: L3, h2, h4 =>
        have := h12.2.2 x (by simp) y (h4.subset (by simp))
        simp [hd?] at hk h2
        omega
theorem Ts.keys {l L : List Pr} {u : Nat} (h : Ts P n l L u) (hp : ∀ e ∈ L, PrOk e) : ∀ e ∈ l, 0 ≤ e.1 ∧ e.1 ≤ 1099511627776 := by
  intro e he
  obtain ⟨L3, s', c', _, h2, _, h4⟩ := h.mem he
  match L3, h2, h4 with
  | y :: L3, h2, h4 =>
    have := hp y (h4.subset (by simp))
    simp [hd?] at h2
    rw [← h2]; exact ⟨this.1, this.2.1⟩
theorem T.at : ∀ {n : Nat} {a : Int} {L : List Pr} {s c : Nat}, T M n a L s c → ∃ l, M a = some ⟨n, l⟩ ∧ s = l.length
  | 0, _, L, _, _, h => ⟨L, h.1, h.2.1⟩
  | _ + 1, _, _, _, _, ⟨l, h1, h2, _⟩ => ⟨l, h1, h2⟩
theorem T.mono : ∀ {n : Nat} {a : Int} {L : List Pr} {s c : Nat}, T M n a L s c → (∀ b x, M b = some x → M' b = some x ∨ M' b = none) → (∀ b x, M' b = some x → ∀ k ∈ kids x, M' k ≠ none) → M' a ≠ none → T M' n a L s c
  | 0, a, L, s, c, h, h1, h2, h3 => by
    rcases h1 a _ h.1 with h4 | h4
    · exact ⟨h4, h.2⟩
    · exact absurd h4 h3
  | n + 1, a, L, s, c, ⟨l, h, hs, ht⟩, h1, h2, h3 => by
    rcases h1 a _ h with h4 | h4
    · refine ⟨l, h4, hs, ht.mono fun e he L s c ht => T.mono ht h1 h2 (h2 a _ h4 e.2 ?_)⟩
      unfold kids
      rw [if_neg (by simp)]
      exact List.mem_map_of_mem he
    · exact absurd h4 h3
theorem T.more {n : Nat} {a : Int} {L : List Pr} {s c : Nat} (h : T M n a L s c) (h1 : ∀ b x, M b = some x → M' b = some x) : T M' n a L s c := by
  induction n generalizing a L s c with
  | zero => exact ⟨h1 _ _ h.1, h.2⟩
  | succ n ih =>
    obtain ⟨l, h, hs, ht⟩ := h
    exact ⟨l, h1 _ _ h, hs, ht.mono fun e he L s c ht => ih ht⟩
theorem Ts.det {l L : List Pr} {u : Nat} (h : Ts P n l L u) : ∀ {L' : List Pr} {u' : Nat}, Ts P n l L' u' → (∀ e ∈ l, ∀ L s c L' s' c', P e.2 L s c → P e.2 L' s' c' → L = L' ∧ s = s' ∧ c = c') → L = L' ∧ u = u' := by
  induction h with
  | nil => intro L' u' h _; cases h; exact ⟨rfl, rfl⟩
  | @cons k v s c L1 l L2 u h hk t ih =>
    intro L' u' h' hd
    obtain ⟨A, B, s', c', u2, g1, g2, g3, rfl, rfl⟩ := h'.uncons
    obtain ⟨rfl, rfl, rfl⟩ := hd (k, v) (by simp) _ _ _ _ _ _ h g1
    obtain ⟨rfl, rfl⟩ := ih g3 fun e he => hd e (by simp [he])
    exact ⟨rfl, rfl⟩
theorem T.det : ∀ {n : Nat} {a : Int} {L L' : List Pr} {s s' c c' : Nat}, T M n a L s c → T M n a L' s' c' → L = L' ∧ s = s' ∧ c = c'
  | 0, a, L, L', s, s', c, c', h, h' => by
    have := h.1.symm.trans h'.1
    simp at this
    subst this
    exact ⟨rfl, h.2.1.trans h'.2.1.symm, h.2.2.trans h'.2.2.symm⟩
  | n + 1, a, L, L', s, s', c, c', ⟨l, h, hs, ht⟩, ⟨l', h', hs', ht'⟩ => by
    have := h.symm.trans h'
    simp at this
    subst this
    obtain ⟨h1, h2⟩ := ht.det ht' fun e _ L s c L' s' c' => T.det
    exact ⟨h1, hs.trans hs'.symm, h2⟩
theorem T.lv {n m : Nat} {a : Int} {L L' : List Pr} {s s' c c' : Nat} (h : T M n a L s c) (h' : T M m a L' s' c') : n = m := by
  obtain ⟨l, h1, _⟩ := h.at
  obtain ⟨l', h2, _⟩ := h'.at
  have := h1.symm.trans h2
  simp at this
  exact this.1
theorem T.ne (hok : ∀ b x, M b = some x → NdOk x) : ∀ {n : Nat} {a : Int} {L : List Pr} {s c : Nat}, T M n a L s c → L ≠ []
  | 0, a, L, s, c, h => by
    have := (hok _ _ h.1).2.1
    intro e; subst e; simp at this
  | n + 1, a, L, s, c, ⟨l, h, _, ht⟩ => by
    intro e
    have h1 := ht.nil_iff.1 e
    have := (hok _ _ h).2.1
    subst h1; simp at this
/-- all pages of a tree, page by page. -/
def pgs (M : Int → Option Nd) : Nat → Int → List Int
  | 0, a => [a]
  | n + 1, a => a :: (match M a with
    | some x => x.l.flatMap fun e => pgs M n e.2
    | none => [])
/-- those of one level. -/
def pgsAt (M : Int → Option Nd) (j : Nat) : Nat → Int → List Int
  | 0, a => if j = 0 then [a] else []
  | n + 1, a => if j = n + 1 then [a] else (match M a with
    | some x => x.l.flatMap fun e => pgsAt M j n e.2
    | none => [])
theorem flat_le {α β : Type} {f : α → List β} {l : List α} {g : α → Nat} (h : ∀ x ∈ l, (f x).length ≤ g x) : (l.flatMap f).length ≤ (l.map g).sum := by
  induction l with
  | nil => simp
  | cons a l ih =>
    simp only [List.flatMap_cons, List.length_append, List.map_cons, List.sum_cons]
    have := h a (by simp)
    have := ih fun x hx => h x (by simp [hx])
    omega
theorem Ts.at_len {f : Int → List Int} {l L : List Pr} {u : Nat} (h : Ts P n l L u) (hf : ∀ e ∈ l, ∀ L s c, P e.2 L s c → (f e.2).length ≤ L.length) : (l.flatMap fun e => f e.2).length ≤ L.length := by
  induction h with
  | nil => simp
  | @cons k v s c L1 l L2 u h hk t ih =>
    have h1 := hf (k, v) (by simp) _ _ _ h
    dsimp only at h1
    have h2 := ih fun e he => hf e (by simp [he])
    simp only [List.flatMap_cons, List.length_append]
    omega
/-- as many pages of one level as items, at most. -/
theorem T.at_len (hok : ∀ b x, M b = some x → NdOk x) {j : Nat} : ∀ {n : Nat} {a : Int} {L : List Pr} {s c : Nat}, T M n a L s c → (pgsAt M j n a).length ≤ L.length
  | 0, a, L, s, c, h => by
    have := T.ne hok h
    unfold pgsAt
    cases L with
    | nil => exact absurd rfl this
    | cons x L => split <;> simp
  | n + 1, a, L, s, c, h => by
    have hne := T.ne hok h
    obtain ⟨l, h, hs, ht⟩ := h
    unfold pgsAt
    split
    · cases L with
      | nil => exact absurd rfl hne
      | cons x L => simp
    · rw [h]
      exact ht.at_len (f := pgsAt M j n) fun e _ L s c => T.at_len hok
theorem Ts.at_pot {j : Nat} {f : Int → List Int} {l L : List Pr} {u K : Nat} (h : Ts P n l L u) (hf : ∀ e ∈ l, ∀ L s c, P e.2 L s c → (f e.2).length * 4 ^ (j + 1) ≤ K + (s - 4) * 4 ^ n + c) : (l.flatMap fun e => f e.2).length * 4 ^ (j + 1) ≤ l.length * K + u := by
  induction h with
  | nil => simp
  | @cons k v s c L1 l L2 u h hk t ih =>
    have h1 := hf (k, v) (by simp) _ _ _ h
    dsimp only at h1
    have h2 := ih fun e he => hf e (by simp [he])
    simp only [List.flatMap_cons, List.length_append, List.length_cons, Nat.add_mul, Nat.one_mul]
    omega
theorem T.at_pot {j : Nat} : ∀ {n : Nat} {a : Int} {L : List Pr} {s c : Nat}, T M n a L s c → (pgsAt M j n a).length * 4 ^ (j + 1) ≤ 4 ^ (n + 1) + (s - 4) * 4 ^ n + c
  | 0, a, L, s, c, h => by
    unfold pgsAt
    split
    · rename_i hj; subst hj; simp; omega
    · simp
  | n + 1, a, L, s, c, ⟨l, h, hs, ht⟩ => by
    unfold pgsAt
    split
    · rename_i hj; subst hj; simp; omega
    · rw [h]
      have h1 := ht.at_pot (j := j) (f := pgsAt M j n) (K := 4 ^ (n + 1)) fun e _ L s c ht => T.at_pot ht
      rw [← hs] at h1
      refine Nat.le_trans h1 ?_
      have h2 : s * 4 ^ (n + 1) ≤ (4 + (s - 4)) * 4 ^ (n + 1) := Nat.mul_le_mul_right _ (by omega)
      rw [Nat.add_mul] at h2
      have h3 : 4 ^ (n + 1 + 1) = 4 * 4 ^ (n + 1) := by rw [Nat.pow_succ, Nat.mul_comm]
      omega
end
end Go.Proofs.YtemenmmekddjaaaGreatDoor
end
