/- Four trees over a store: what each call leaves. No condition. Four trees over a store: the pages of all. No condition. -/
import Derived.Test.YtemenmmekddjaaaGreatDoorJ23
import Derived.Test.YtemenmmekddjaaaGreatDoorJ33
set_option linter.all false
set_option linter.unusedVariables false
set_option linter.unusedSimpArgs false
set_option linter.unnecessarySimpa false
set_option linter.unusedSectionVars false
set_option linter.constructorNameAsVariable false
section
namespace Go.Proofs.YtemenmmekddjaaaGreatDoor
variable {ω : Go.W.Origin}
def upd {α : Type} (r : Nat → α) (i : Nat) (x : α) : Nat → α := fun j => if j = i then x else r j
def one4 (p : Prop) [Decidable p] : Int := if p then 1 else 0
theorem one4_t {p : Prop} [Decidable p] (h : p) : one4 p = 1 := if_pos h
/-- how many of the four are a. -/
def cnt4 (r : Nat → Int) (a : Int) : Int := one4 (r 0 = a) + one4 (r 1 = a) + one4 (r 2 = a) + one4 (r 3 = a)
theorem cases4 {P : Nat → Prop} {i : Nat} (hi : i < 4) (h0 : P 0) (h1 : P 1) (h2 : P 2) (h3 : P 3) : P i := by
  match i, hi with
  | 0, _ => exact h0
  | 1, _ => exact h1
  | 2, _ => exact h2
  | 3, _ => exact h3
theorem one4_nn (p : Prop) [Decidable p] : 0 ≤ one4 p ∧ one4 p ≤ 1 := by unfold one4; split <;> omega
theorem cnt4_upd {r : Nat → Int} {i : Nat} {x : Int} (hi : i < 4) (a : Int) : cnt4 (upd r i x) a = cnt4 r a + one4 (x = a) - one4 (r i = a) := by
  refine cases4 (P := fun i => cnt4 (upd r i x) a = cnt4 r a + one4 (x = a) - one4 (r i = a)) hi ?_ ?_ ?_ ?_ <;> · simp [cnt4, upd]; omega
theorem cnt4_pos {r : Nat → Int} {i : Nat} (hi : i < 4) : 1 ≤ cnt4 r (r i) := by
  have key : ∀ a, r i = a → 1 ≤ cnt4 r a := by
    intro a
    have h0 := one4_nn (r 0 = a)
    have h1 := one4_nn (r 1 = a)
    have h2 := one4_nn (r 2 = a)
    have h3 := one4_nn (r 3 = a)
    refine cases4 (P := fun i => r i = a → 1 ≤ cnt4 r a) hi ?_ ?_ ?_ ?_ <;> · intro e; have e := one4_t e; unfold cnt4; omega
  exact key _ rfl
theorem cnt4_le (r : Nat → Int) (a : Int) : 0 ≤ cnt4 r a ∧ cnt4 r a ≤ 4 := by
  have h0 := one4_nn (r 0 = a)
  have h1 := one4_nn (r 1 = a)
  have h2 := one4_nn (r 2 = a)
  have h3 := one4_nn (r 3 = a)
  unfold cnt4; omega
theorem cnt4_some {r : Nat → Int} {a : Int} (h : 0 < cnt4 r a) : ∃ i < 4, r i = a := by
  by_cases h0 : r 0 = a
  · exact ⟨0, by omega, h0⟩
  by_cases h1 : r 1 = a
  · exact ⟨1, by omega, h1⟩
  by_cases h2 : r 2 = a
  · exact ⟨2, by omega, h2⟩
  by_cases h3 : r 3 = a
  · exact ⟨3, by omega, h3⟩
  unfold cnt4 one4 at h
  rw [if_neg h0, if_neg h1, if_neg h2, if_neg h3] at h
  omega
/-- four trees and what they have; N: how many pairs were put. -/
structure Top (Q : RoomI) (σ : Sto) (D : List Int) (r : Nat → Int) (L : Nat → List Pr) (N : Nat) : Prop where
  ip : IP Q σ D []
  nz : NoZero σ
  hd : ∀ a, σ.hd a = if a = 0 then 0 else cnt4 r a
  row : ∀ i < 4, (r i = 0 ∧ L i = []) ∨ (2 ≤ r i ∧ ∃ n s c, T σ.nd n (r i) (L i) s c ∧ s * 4 ^ n + c ≤ N)
  ok : ∀ i < 4, RowOk (L i)
  len : ∀ i < 4, (L i).length ≤ N
section
variable {Q : RoomI} {σ σ1 σ' : Sto} {D : List Int} {r : Nat → Int} {L : Nat → List Pr} {N i : Nat} {key val : Int}
theorem Top.root (h : Top Q σ D r L N) (hi : i < 4) : (r i = 0 ∧ L i = []) ∨ (2 ≤ r i ∧ r i < 32768 ∧ 0 < σ.hd (r i) ∧ σ.pg (r i) ≠ none ∧ ∃ n s c, T σ.nd n (r i) (L i) s c ∧ s * 4 ^ n + c ≤ N) := by
  rcases h.row i hi with h1 | ⟨h1, h2⟩
  · exact .inl h1
  · have hh : 0 < σ.hd (r i) := by
      rw [h.hd, if_neg (by omega)]
      have := cnt4_pos (r := r) hi
      omega
    obtain ⟨p, hp, _⟩ := pg_of_hd (show σ.hd (r i) ≠ 0 by omega)
    have hne : σ.pg (r i) ≠ none := by rw [hp]; simp
    exact .inr ⟨h1, (h.ip.rng2 hne).2, hh, hne, h2⟩
theorem Top.root0 (h : Top Q σ D r L N) (hi : i < 4) : r i = 0 ↔ L i = [] := by
  rcases h.root hi with ⟨h1, h2⟩ | ⟨h1, _, _, _, n, s, c, h2, _⟩
  · simp [h1, h2]
  · constructor
    · omega
    · intro e
      exact absurd e (h2.ne fun b x hb => by
        obtain ⟨p, hp, rfl⟩ := pg_of_nd hb
        exact h.ip.ok b p hp)
theorem Top.okN (h : Top Q σ D r L N) : ∀ b x, σ.nd b = some x → NdOk x := fun b x hb => by
  obtain ⟨p, hp, rfl⟩ := pg_of_nd hb
  exact h.ip.ok b p hp
theorem Top.zero (h : Top Q σ D r L N) : σ.pg 0 = none := by
  cases hp : σ.pg 0 with
  | none => rfl
  | some p => have := h.ip.rng2 (a := 0) (by rw [hp]; simp); omega
theorem Top.rootT (h : Top Q σ D r L N) (hi : i < 4) : RootT σ.nd (r i) (L i) := by
  rcases h.root hi with ⟨h1, h2⟩ | ⟨_, _, _, _, n, s, c, h2, _⟩
  · exact .inl ⟨by rw [h1]; exact nd_none.2 h.zero, h2⟩
  · exact .inr ⟨n, s, c, h2⟩
theorem Top.srt (h : Top Q σ D r L N) (hi : i < 4) : Srt (L i) := (h.ok i hi).1
theorem Top.pos (h : Top Q σ D r L N) (hi : i < 4) : ∀ e ∈ L i, 0 ≤ e.1 := fun e he => ((h.ok i hi).2 e he).1
theorem Top.same (h : Top Q σ D r L N) (hp : σ'.pg = σ.pg) (hip : IP Q σ' D []) : Top Q σ' D r L N where
  ip := hip
  nz a p := by rw [hp]; exact h.nz a p
  hd a := by
    rw [← h.hd a]; unfold Sto.hd; rw [hp]
  row j hj := by
    have : σ'.nd = σ.nd := by unfold Sto.nd; rw [hp]
    rw [this]; exact h.row j hj
  ok := h.ok
  len := h.len
/-- a tree in the place of another. -/
theorem Top.ran {to : Int} {L' : List Pr} {pot N' : Nat} (h : Top Q σ D r L N) (hi : i < 4) (hr0 : r i ≠ 0) (hr : Ran Q σ (r i) σ' to L' pot) (hN : N ≤ N') (hpot : pot ≤ N') (hok : RowOk L') (hlen : L'.length ≤ N') :
    ∃ D', Top Q σ' D' (upd r i to) (upd L i L') N' := by
  obtain ⟨D', hip⟩ := hr.ip
  have hz' : σ'.pg 0 = none := by
    cases hp : σ'.pg 0 with
    | none => rfl
    | some p => have := hip.rng2 (a := 0) (by rw [hp]; simp); omega
  have hhd : ∀ a, σ'.hd a = if a = 0 then 0 else cnt4 (upd r i to) a := by
    intro a
    by_cases ha : a = 0
    · subst ha
      rw [if_pos rfl]
      unfold Sto.hd; rw [hz']
    · rw [if_neg ha, hr.hd, h.hd, if_neg ha, cnt4_upd hi]
      unfold one4
      by_cases e1 : a = to
      · subst e1
        by_cases e2 : a = r i
        · rw [if_pos ⟨rfl, ha⟩, if_pos e2, if_pos rfl, if_pos e2.symm]
        · rw [if_pos ⟨rfl, ha⟩, if_neg e2, if_pos rfl, if_neg (Ne.symm e2)]
      · by_cases e2 : a = r i
        · rw [if_neg (fun h => e1 h.1), if_pos e2, if_neg (Ne.symm e1), if_pos e2.symm]
        · rw [if_neg (fun h => e1 h.1), if_neg e2, if_neg (Ne.symm e1), if_neg (Ne.symm e2)]
  refine ⟨D', hip, hr.nz, hhd, fun j hj => ?_, fun j hj => ?_, fun j hj => ?_⟩
  · by_cases e : j = i
    · subst e
      simp only [upd, if_pos]
      rcases hr.tree with h1 | ⟨h1, _, m, s, c, h2, h3⟩
      · exact .inl h1
      · exact .inr ⟨h1, m, s, c, h2, by omega⟩
    · simp only [upd, if_neg e]
      rcases h.row j hj with h1 | ⟨h1, n, s, c, h2, h3⟩
      · exact .inl h1
      · refine .inr ⟨h1, n, s, c, hip.tree_stays hr.nd h2 ?_, by omega⟩
        have := hhd (r j)
        rw [if_neg (by omega)] at this
        have h4 := cnt4_pos (r := upd r i to) hj
        simp only [upd, if_neg e] at h4
        obtain ⟨p, hp, _⟩ := pg_of_hd (σ := σ') (a := r j) (by omega)
        rw [hp]; simp
  · by_cases e : j = i
    · subst e; simp only [upd, if_pos]; exact hok
    · simp only [upd, if_neg e]; exact h.ok j hj
  · by_cases e : j = i
    · subst e; simp only [upd, if_pos]; exact hlen
    · simp only [upd, if_neg e]; have := h.len j hj; omega
theorem Top.hd6 (h : Top Q σ D r L N) : ∀ b, σ.hd b < 1000000 := fun b => by
  rw [h.hd]
  have := cnt4_le r b
  split <;> omega
theorem Top.set (h : Top Q σ D r L N) (hi : i < 4) (hp : PrOk (key, val)) (hN : N ≤ 1000) (hd : σ.done + 100 < 1000000000) :
    ∃ σ' res, SetR σ (r i) key val σ' res ∧ σ'.done ≤ σ.done + 60 ∧ (match res with
      | none => σ'.pg = σ.pg ∧ Top Q σ' D r L N
      | some to => ∃ D', Top Q σ' D' (upd r i to) (upd L i (setL key val (L i))) (N + 1)) := by
  have hf := setF hp
  have hrow : RowOk (setL key val (L i)) := ⟨hf.srt _ (h.srt hi), hf.ok _ (h.ok i hi).2⟩
  have hlen := hf.len _ (h.srt hi)
  have hli := h.len i hi
  rcases h.root hi with ⟨h0, hl0⟩ | ⟨h2, _, hh, hne, n, s, c, ht, hpot⟩
  · have hcan : CanPut σ ⟨0, [(key, val)]⟩ := ⟨⟨by simp, by simp, by simp, List.pairwise_singleton _ _, fun e he => by simp at he; subst he; exact hp⟩, fun k hk => by simp [kids] at hk⟩
    have hset : setL key val (L i) = [(key, val)] := by rw [hl0]; rfl
    rcases h.ip.putR hcan (by omega) with hput | ⟨σ1, a, hput, hip, haD, ha2, ha3, hnd, hold, hnew, hdone, hwas⟩
    · exact ⟨σ, none, .full h0 hcan hput, by omega, rfl, h⟩
    · have haN : σ.pg a = none := by
        cases hq : σ.pg a with
        | none => rfl
        | some q => exact absurd ((h.ip.mem a).2 (by rw [hq]; simp)) haD
      have hna : σ1.nd a = some ⟨0, [(key, val)]⟩ := by rw [hnd]; simp
      obtain ⟨pa, hpa, hpan⟩ := pg_of_nd hna
      obtain ⟨hz1, hz2⟩ := hnew pa hpa
      obtain ⟨σ', hhold, hip', hnd', hhd', hpgs, hdone', _⟩ := hip.hold hpa (by omega)
      have hhd1 : ∀ b, σ1.hd b = σ.hd b := by
        intro b
        by_cases e : b = a
        · subst e
          rw [hd_of_pg hpa, hz1]
          unfold Sto.hd; rw [haN]
        · cases hb : σ.pg b with
          | some p =>
            obtain ⟨p', h1, _, h3, _⟩ := hold b p hb
            rw [hd_of_pg h1, hd_of_pg hb, h3]
          | none =>
            have : σ1.pg b = none := nd_none.1 (by rw [hnd]; simp [e, nd_none.2 hb])
            unfold Sto.hd; rw [this, hb]
      refine ⟨σ', some a, .one h0 hcan hput hhold, by omega, a :: D, hip', ?_, ?_, ?_, ?_, ?_⟩
      · intro b q hq hq0
        obtain ⟨q0, g1, g2⟩ := hpgs b q hq
        by_cases e : b = a
        · subst e
          rw [hpa] at g1; cases g1
          rw [if_pos rfl] at g2; omega
        · rw [if_neg e] at g2
          cases hb : σ.pg b with
          | some p =>
            obtain ⟨p', h1, _, _, h4⟩ := hold b p hb
            rw [h1] at g1; cases g1
            have := h.nz b p hb
            have := h.ip.nonneg hb
            omega
          | none =>
            have : σ1.pg b = none := nd_none.1 (by rw [hnd]; simp [e, nd_none.2 hb])
            rw [this] at g1; cases g1
      · intro b
        rw [hhd', hhd1, h.hd]
        by_cases hb : b = 0
        · subst hb
          rw [if_pos rfl, if_pos rfl, if_neg (by omega)]; rfl
        · rw [if_neg hb, if_neg hb, cnt4_upd hi, h0]
          unfold one4
          by_cases e : b = a
          · rw [if_pos e, if_pos e.symm, if_neg (Ne.symm hb)]; omega
          · rw [if_neg e, if_neg (Ne.symm e), if_neg (Ne.symm hb)]; omega
      · intro j hj
        by_cases e : j = i
        · subst e
          simp only [upd, if_pos]
          rw [hset]
          exact .inr ⟨ha2, 0, 1, 0, ⟨by rw [hnd']; exact hna, rfl, rfl⟩, by omega⟩
        · simp only [upd, if_neg e]
          rcases h.row j hj with h1 | ⟨h1, n, s, c, h2, h3⟩
          · exact .inl h1
          · refine .inr ⟨h1, n, s, c, ?_, by omega⟩
            rw [hnd']
            refine h2.more fun b x hb => ?_
            rw [hnd]
            dsimp only
            rw [if_neg]
            · exact hb
            · intro e; rw [e, nd_none.2 haN] at hb; cases hb
      · intro j hj
        by_cases e : j = i
        · subst e; simp only [upd, if_pos]; exact hrow
        · simp only [upd, if_neg e]; exact h.ok j hj
      · intro j hj
        by_cases e : j = i
        · subst e; simp only [upd, if_pos]; omega
        · simp only [upd, if_neg e]; have := h.len j hj; omega
  · obtain ⟨σ', res, hrun, hdone, hres⟩ := h.ip.run hf h.nz ht (h.ok i hi) trivial hh h.hd6 (by omega) hd
    refine ⟨σ', res, .run (by omega) hrun, hdone, ?_⟩
    cases res with
    | none => exact ⟨hres.1, h.same hres.1 hres.2.1⟩
    | some to => exact h.ran hi (by omega) hres (by omega) (by omega) hrow (by omega)
theorem Top.del (h : Top Q σ D r L N) (hi : i < 4) (hf0 : ∃ e ∈ L i, e.1 = key) (hN : N ≤ 1000) (hd : σ.done + 100 < 1000000000) :
    ∃ σ' res, RunR (delL key) (fun l => ∃ e ∈ l, e.1 = key) key σ (r i) σ' res ∧ σ'.done ≤ σ.done + 60 ∧ (match res with
      | none => σ'.pg = σ.pg ∧ Top Q σ' D r L N
      | some to => ∃ D', Top Q σ' D' (upd r i to) (upd L i (delL key (L i))) N) := by
  have hf := delF (key := key)
  have hrow : RowOk (delL key (L i)) := ⟨hf.srt _ (h.srt hi), hf.ok _ (h.ok i hi).2⟩
  have hlen := hf.len _ (h.srt hi)
  have hli := h.len i hi
  rcases h.root hi with ⟨h0, hl0⟩ | ⟨h2, _, hh, hne, n, s, c, ht, hpot⟩
  · obtain ⟨e, he, _⟩ := hf0
    rw [hl0] at he; simp at he
  · obtain ⟨σ', res, hrun, hdone, hres⟩ := h.ip.run hf h.nz ht (h.ok i hi) hf0 hh h.hd6 (by omega) hd
    refine ⟨σ', res, hrun, hdone, ?_⟩
    cases res with
    | none => exact ⟨hres.1, h.same hres.1 hres.2.1⟩
    | some to => exact h.ran hi (by omega) hres (by omega) (by omega) hrow (by omega)
/-- one tree becomes another one of the four, or none. -/
theorem Top.move {to : Int} {l : List Pr} (h : Top Q σ D r L N) (hi : i < 4) (ht : (to = 0 ∧ l = []) ∨ ∃ k < 4, to = r k ∧ l = L k) :
    ∃ σ1 σ2 D', (to = 0 ∧ σ1 = σ ∨ to ≠ 0 ∧ HoldR σ to σ1) ∧ (r i = 0 ∧ σ2 = σ1 ∨ r i ≠ 0 ∧ DropR σ1 (r i) σ2) ∧ σ2.done = σ.done ∧ Top Q σ2 D' (upd r i to) (upd L i l) N := by
  have hto : (to = 0 ∧ l = []) ∨ (2 ≤ to ∧ σ.pg to ≠ none ∧ (∃ n s c, T σ.nd n to l s c ∧ s * 4 ^ n + c ≤ N)) := by
    rcases ht with h1 | ⟨k, hk, rfl, rfl⟩
    · exact .inl h1
    · rcases h.root hk with h1 | ⟨h1, _, _, h2, h3⟩
      · exact .inl h1
      · exact .inr ⟨h1, h2, h3⟩
  have hl : RowOk l ∧ l.length ≤ N := by
    rcases ht with ⟨_, rfl⟩ | ⟨k, hk, _, rfl⟩
    · exact ⟨⟨.nil, by simp⟩, by simp⟩
    · exact ⟨h.ok k hk, h.len k hk⟩
  have s1 : ∃ σ1, (to = 0 ∧ σ1 = σ ∨ to ≠ 0 ∧ HoldR σ to σ1) ∧ IP Q σ1 D [] ∧ NoZero σ1 ∧ σ1.nd = σ.nd ∧ (∀ b, σ1.hd b = σ.hd b + (if b = to ∧ to ≠ 0 then 1 else 0)) ∧ σ1.done = σ.done := by
    rcases hto with ⟨h1, _⟩ | ⟨h1, h2, _⟩
    · exact ⟨σ, .inl ⟨h1, rfl⟩, h.ip, h.nz, rfl, fun b => by rw [if_neg (fun h => h.2 h1)]; omega, rfl⟩
    · cases hp : σ.pg to with
      | none => exact absurd hp h2
      | some p =>
        have h6 := h.hd6 to
        rw [hd_of_pg hp] at h6
        obtain ⟨σ1, g1, g2, g3, g4, g5, g6, _⟩ := h.ip.hold hp (by omega)
        refine ⟨σ1, .inr ⟨by omega, g1⟩, g2, fun b q hq hq0 => ?_, g3, fun b => ?_, g6⟩
        · obtain ⟨q0, e1, e2⟩ := g5 b q hq
          have := h.nz b q0 e1
          have := h.ip.nonneg e1
          split at e2 <;> omega
        · rw [g4]
          by_cases e : b = to
          · rw [if_pos e, if_pos ⟨e, by omega⟩]
          · rw [if_neg e, if_neg (fun h => e h.1)]
  obtain ⟨σ1, hs1, hip1, hnz1, hnd1, hhd1, hdone1⟩ := s1
  have s2 : ∃ σ2 D', (r i = 0 ∧ σ2 = σ1 ∨ r i ≠ 0 ∧ DropR σ1 (r i) σ2) ∧ IP Q σ2 D' [] ∧ NoZero σ2 ∧ (∀ b x, σ1.nd b = some x → σ2.nd b = some x ∨ σ2.nd b = none) ∧ (∀ b, σ2.hd b = σ1.hd b - (if b = r i ∧ r i ≠ 0 then 1 else 0)) ∧ σ2.done = σ.done := by
    rcases h.root hi with ⟨h1, _⟩ | ⟨h1, _, hh, h2, _⟩
    · exact ⟨σ1, D, .inl ⟨h1, rfl⟩, hip1, hnz1, fun b x hb => .inl hb, fun b => by rw [if_neg (fun h => h.2 h1)]; omega, hdone1⟩
    · have hh1 : 0 < σ1.hd (r i) := by
        rw [hhd1]; split <;> omega
      obtain ⟨p, hp, hpe⟩ := pg_of_hd (show σ1.hd (r i) ≠ 0 by omega)
      obtain ⟨σ2, D', g1, g2, g3, g4, g5, g6, g7, g8, _⟩ := hip1.drop hp (by omega)
      refine ⟨σ2, D', .inr ⟨by omega, g1⟩, g2, fun b q hq hq0 => ?_, g3, fun b => ?_, by omega⟩
      · obtain ⟨q0, e1, e2⟩ := g6 b q hq hq0
        exact hnz1 b q0 e1 e2
      · rw [g5]
        by_cases e : b = r i
        · rw [if_pos e, if_pos ⟨e, by omega⟩]
        · rw [if_neg e, if_neg (fun h => e h.1)]
  obtain ⟨σ2, D', hs2, hip2, hnz2, hnd2, hhd2, hdone2⟩ := s2
  have hz' : σ2.pg 0 = none := by
    cases hp : σ2.pg 0 with
    | none => rfl
    | some p => have := hip2.rng2 (a := 0) (by rw [hp]; simp); omega
  have hhd : ∀ a, σ2.hd a = if a = 0 then 0 else cnt4 (upd r i to) a := by
    intro a
    by_cases ha : a = 0
    · subst ha
      rw [if_pos rfl]
      unfold Sto.hd; rw [hz']
    · rw [if_neg ha, hhd2, hhd1, h.hd, if_neg ha, cnt4_upd hi]
      unfold one4
      by_cases e1 : a = to
      · subst e1
        by_cases e2 : a = r i
        · rw [if_pos ⟨rfl, ha⟩, if_pos ⟨e2, by omega⟩, if_pos rfl, if_pos e2.symm]
        · rw [if_pos ⟨rfl, ha⟩, if_neg (fun h => e2 h.1), if_pos rfl, if_neg (Ne.symm e2)]
      · by_cases e2 : a = r i
        · rw [if_neg (fun h => e1 h.1), if_pos ⟨e2, by omega⟩, if_neg (Ne.symm e1), if_pos e2.symm]
        · rw [if_neg (fun h => e1 h.1), if_neg (fun h => e2 h.1), if_neg (Ne.symm e1), if_neg (Ne.symm e2)]
  have stay : ∀ {x : Int} {l : List Pr} {j : Nat}, j < 4 → upd r i to j = x → 2 ≤ x → (∃ n s c, T σ.nd n x l s c ∧ s * 4 ^ n + c ≤ N) → ∃ n s c, T σ2.nd n x l s c ∧ s * 4 ^ n + c ≤ N := by
    rintro x l j hj rfl h2 ⟨n, s, c, g1, g2⟩
    refine ⟨n, s, c, hip2.tree_stays (σ := σ1) hnd2 (by rw [hnd1]; exact g1) ?_, g2⟩
    have := hhd (upd r i to j)
    rw [if_neg (by omega)] at this
    have h4 := cnt4_pos (r := upd r i to) hj
    obtain ⟨p, hp, _⟩ := pg_of_hd (σ := σ2) (a := upd r i to j) (by omega)
    rw [hp]; simp
  refine ⟨σ1, σ2, D', hs1, hs2, hdone2, hip2, hnz2, hhd, fun j hj => ?_, fun j hj => ?_, fun j hj => ?_⟩
  · by_cases e : j = i
    · subst e
      rcases hto with h1 | ⟨h1, _, h3⟩
      · left; simpa [upd] using h1
      · right
        have := stay (j := j) hj rfl (by simpa [upd] using h1) (l := l) (by simpa [upd] using h3)
        exact ⟨by simpa [upd] using h1, by simpa [upd] using this⟩
    · rcases h.row j hj with h1 | ⟨h1, h3⟩
      · left; simpa [upd, e] using h1
      · right
        have := stay (j := j) hj rfl (by simpa [upd, e] using h1) (l := L j) (by simpa [upd, e] using h3)
        exact ⟨by simpa [upd, e] using h1, by simpa [upd, e] using this⟩
  · by_cases e : j = i
    · subst e; simp only [upd, if_pos]; exact hl.1
    · simp only [upd, if_neg e]; exact h.ok j hj
  · by_cases e : j = i
    · subst e; simp only [upd, if_pos]; exact hl.2
    · simp only [upd, if_neg e]; exact h.len j hj
end
end Go.Proofs.YtemenmmekddjaaaGreatDoor
end
section
namespace Go.Proofs.YtemenmmekddjaaaGreatDoor
variable {ω : Go.W.Origin}
theorem pgs_kids {M : Int → Option Nd} {n s c : Nat} {a x : Int} {L : List Pr} {nd : Nd} (h : T M n a L s c) (hx : x ∈ pgs M n a) (hn : M x = some nd) {k : Int} (hk : k ∈ kids nd) : k ∈ pgs M n a := by
  obtain ⟨_, _, g3, _⟩ := gath_spec (S := []) h (fun x hx => by simp at hx)
  obtain ⟨nd', h1, h2⟩ := pgs_lv h x hx
  rw [hn] at h1; cases h1
  exact (gath_pgs h k).1 (g3 x ((gath_pgs h x).2 hx) nd hn h2 k hk)
/-- a page of the tree at r. -/
def TPg (M : Int → Option Nd) (r a : Int) : Prop := ∃ n L s c, T M n r L s c ∧ a ∈ pgs M n r
theorem TreeL.iff {M : Int → Option Nd} {r : Int} {l : List Int} (h : TreeL M r l) (a : Int) : a ∈ l ↔ TPg M r a := by
  rcases h.2 with ⟨hn, rfl⟩ | ⟨n, L, s, c, ht, hl⟩
  · constructor
    · intro h; simp at h
    · rintro ⟨n, L, s, c, ht, _⟩
      obtain ⟨l, hl, _⟩ := ht.at
      rw [hn] at hl; cases hl
  · rw [hl]
    constructor
    · exact fun h => ⟨n, L, s, c, ht, h⟩
    · rintro ⟨n', L', s', c', ht', h'⟩
      rw [ht.lv ht']; exact h'
def lvO (M : Int → Option Nd) (x : Int) : Nat := match M x with
  | some nd => nd.lv
  | none => 0
/-- how many of them are at a level. -/
def atLv (M : Int → Option Nd) (l : List Int) (j : Nat) : Nat := (l.filter fun x => decide (lvO M x = j)).length
theorem atLv_snoc {M : Int → Option Nd} {l : List Int} {x : Int} (j : Nat) : atLv M (l ++ [x]) j = if j = lvO M x then atLv M l j + 1 else atLv M l j := by
  unfold atLv
  rw [List.filter_append, List.length_append]
  split
  · rename_i h
    rw [List.filter_cons_of_pos (by simp [h])]; rfl
  · rename_i h
    rw [List.filter_cons_of_neg (by simp; exact fun e => h e.symm)]; rfl
theorem atLv_le {M : Int → Option Nd} (hok : ∀ b x, M b = some x → NdOk x) {r : Int} {l l' : List Int} {L : List Pr} (h : TreeL M r l) (hr : RootT M r L) (hs : l'.Sublist l) (j : Nat) : atLv M l' j ≤ L.length := by
  rcases hr with ⟨hn, rfl⟩ | ⟨n, s, c, ht⟩
  · rcases h.2 with ⟨_, rfl⟩ | ⟨n, L, s, c, ht, hl⟩
    · rw [List.sublist_nil.1 hs]; exact Nat.le_refl _
    · obtain ⟨l, hl, _⟩ := ht.at
      rw [hn] at hl; cases hl
  · have hnd : l'.Nodup := (h.1.imp fun h => by omega : l.Nodup).sublist hs
    refine Nat.le_trans (sub_len (hnd.sublist List.filter_sublist) fun x hx => ?_) (ht.at_len hok (j := j))
    obtain ⟨hx1, hx2⟩ := List.mem_filter.1 hx
    obtain ⟨n', L', s', c', ht', hx'⟩ := (h.iff x).1 (hs.subset hx1)
    rw [← ht.lv ht'] at hx'
    obtain ⟨nd, h1, _⟩ := pgs_lv ht x hx'
    have := pgs_at ht x hx' nd h1
    simp [lvO, h1] at hx2
    rw [← hx2]; exact this
section
variable {Q : RoomI} {σ σ1 σ' : Sto} {D : List Int} {r : Nat → Int} {L : Nat → List Pr} {N i : Nat} {key val : Int}
theorem Top.tpg (h : Top Q σ D r L N) {j : Nat} (hj : j < 4) {a : Int} (ha : TPg σ.nd (r j) a) : ∃ p, σ.pg a = some p ∧ 2 ≤ a ∧ a < 32768 ∧ p.n.lv ≤ 20 := by
  obtain ⟨n, L, s, c, ht, hx⟩ := ha
  obtain ⟨nd, h1, _⟩ := pgs_lv ht a hx
  obtain ⟨p, hp, rfl⟩ := pg_of_nd h1
  have := h.ip.rng2 (a := a) (by rw [hp]; simp)
  exact ⟨p, hp, this.1, this.2, h.ip.lv20 hp⟩
theorem Top.all (h : Top Q σ D r L N) (a : Int) : (∃ j < 4, TPg σ.nd (r j) a) ↔ σ.pg a ≠ none := by
  constructor
  · rintro ⟨j, hj, ha⟩
    obtain ⟨p, hp, _⟩ := h.tpg hj ha
    rw [hp]; simp
  · intro ha
    cases hp : σ.pg a with
    | none => exact absurd hp ha
    | some p =>
      refine Classical.byContradiction fun hno => ?_
      obtain ⟨x, q, h1, h2, h3⟩ := h.ip.above (fun a => ¬ ∃ j < 4, TPg σ.nd (r j) a) (fun a p hp _ => h.nz a p hp) (fun a b p hx hb hk hb2 => hx (by
        obtain ⟨j, hj, n, L, s, c, ht, hx⟩ := hb2
        exact ⟨j, hj, n, L, s, c, ht, pgs_kids ht hx (nd_of_pg hb) hk⟩)) 20 a p hp hno (by omega)
      have h4 := h.hd x
      rw [hd_of_pg h2] at h4
      split at h4
      · omega
      · obtain ⟨j, hj, rfl⟩ := cnt4_some (show 0 < cnt4 r x by omega)
        rcases h.root hj with ⟨e, _⟩ | ⟨_, _, _, _, n, s, c, ht, _⟩
        · contradiction
        · exact h1 ⟨j, hj, n, L j, s, c, ht, self_pgs⟩
end
end Go.Proofs.YtemenmmekddjaaaGreatDoor
end
