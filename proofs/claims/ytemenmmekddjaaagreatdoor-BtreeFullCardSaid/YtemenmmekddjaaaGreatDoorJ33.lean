/- The pages of a tree, gathered. No condition. What the functions of package btree do: Check, Pages. No condition. What the functions of package btree do: Check. No condition. -/
import Derived.Test.YtemenmmekddjaaaGreatDoorJ16
import Derived.Test.YtemenmmekddjaaaGreatDoorJ30
import Derived.Test.YtemenmmekddjaaaGreatDoorJ32
set_option linter.all false
set_option linter.unusedVariables false
set_option linter.unusedSimpArgs false
set_option linter.unnecessarySimpa false
set_option linter.unusedSectionVars false
set_option linter.constructorNameAsVariable false
section
namespace Go.Proofs.YtemenmmekddjaaaGreatDoor
def gath (M : Int → Option Nd) : Nat → List Int → Int → List Int
  | 0, S, a => if a ∈ S then S else a :: S
  | n + 1, S, a => if a ∈ S then S else match M a with
    | some x => x.l.foldl (fun S e => gath M n S e.2) (a :: S)
    | none => S
/-- what is there has what it names, up to a level. -/
def Cl (M : Int → Option Nd) (n : Nat) (S : List Int) : Prop := ∀ x ∈ S, ∀ nd, M x = some nd → nd.lv ≤ n → ∀ k ∈ kids nd, k ∈ S
section
variable {M : Int → Option Nd}
theorem pgs_lv : ∀ {n : Nat} {a : Int} {L : List Pr} {s c : Nat}, T M n a L s c → ∀ x ∈ pgs M n a, ∃ nd, M x = some nd ∧ nd.lv ≤ n
  | 0, a, L, s, c, h, x, hx => by
    simp [pgs] at hx; subst hx
    exact ⟨_, h.1, Nat.le_refl _⟩
  | n + 1, a, L, s, c, ⟨l, h, hs, ht⟩, x, hx => by
    unfold pgs at hx
    rw [h] at hx
    rcases List.mem_cons.1 hx with rfl | hx
    · exact ⟨_, h, Nat.le_refl _⟩
    · obtain ⟨e, he, hxe⟩ := List.mem_flatMap.1 hx
      obtain ⟨L1, s', c', h1, _⟩ := ht.mem he
      obtain ⟨nd, h2, h3⟩ := pgs_lv h1 x hxe
      exact ⟨nd, h2, by omega⟩
theorem self_pgs {n : Nat} {a : Int} : a ∈ pgs M n a := by
  cases n <;> simp [pgs]
theorem gath_spec : ∀ {n : Nat} {S : List Int} {a : Int} {L : List Pr} {s c : Nat}, T M n a L s c → Cl M n S →
    (∀ x ∈ S, x ∈ gath M n S a) ∧ a ∈ gath M n S a ∧ Cl M n (gath M n S a) ∧ ∀ x ∈ gath M n S a, x ∈ S ∨ x ∈ pgs M n a
  | 0, S, a, L, s, c, h, hc => by
    unfold gath
    split
    · rename_i ha; exact ⟨fun x hx => hx, ha, hc, fun x hx => .inl hx⟩
    · refine ⟨fun x hx => by simp [hx], by simp, fun x hx nd hnd hlv k hk => ?_, fun x hx => ?_⟩
      · have : kids nd = [] := by unfold kids; rw [if_pos (by omega)]
        rw [this] at hk; simp at hk
      · rcases List.mem_cons.1 hx with rfl | hx
        · right; simp [pgs]
        · exact .inl hx
  | n + 1, S, a, L, s, c, ⟨l, h, hs, ht⟩, hc => by
    unfold gath
    split
    · rename_i ha; exact ⟨fun x hx => hx, ha, hc, fun x hx => .inl hx⟩
    · rw [h]
      dsimp only
      have key : ∀ (l' : List Pr) (S1 : List Int), (∀ e ∈ l', ∃ L1 s c, T M n e.2 L1 s c) → Cl M n S1 →
          (∀ x ∈ S1, x ∈ l'.foldl (fun S e => gath M n S e.2) S1) ∧ (∀ e ∈ l', e.2 ∈ l'.foldl (fun S e => gath M n S e.2) S1) ∧ Cl M n (l'.foldl (fun S e => gath M n S e.2) S1) ∧
          ∀ x ∈ l'.foldl (fun S e => gath M n S e.2) S1, x ∈ S1 ∨ ∃ e ∈ l', x ∈ pgs M n e.2 := by
        intro l'
        induction l' with
        | nil => intro S1 _ hc1; exact ⟨fun x hx => hx, by simp, hc1, fun x hx => .inl hx⟩
        | cons e l' ih =>
          intro S1 hT hc1
          obtain ⟨L1, s1, c1, ht1⟩ := hT e (by simp)
          obtain ⟨g1, g2, g3, g4⟩ := gath_spec ht1 hc1
          obtain ⟨k1, k2, k3, k4⟩ := ih (gath M n S1 e.2) (fun e' he' => hT e' (by simp [he'])) g3
          refine ⟨fun x hx => k1 x (g1 x hx), fun e' he' => ?_, k3, fun x hx => ?_⟩
          · rcases List.mem_cons.1 he' with rfl | he'
            · exact k1 _ g2
            · exact k2 e' he'
          · rcases k4 x hx with hx | ⟨e', he', hx⟩
            · rcases g4 x hx with hx | hx
              · exact .inl hx
              · exact .inr ⟨e, by simp, hx⟩
            · exact .inr ⟨e', by simp [he'], hx⟩
      have hTs : ∀ e ∈ l, ∃ L1 s c, T M n e.2 L1 s c := fun e he => by
        obtain ⟨L1, s', c', h1, _⟩ := ht.mem he
        exact ⟨L1, s', c', h1⟩
      have hc1 : Cl M n (a :: S) := fun x hx nd hnd hlv k hk => by
        rcases List.mem_cons.1 hx with rfl | hx
        · rw [h] at hnd; cases hnd; simp only at hlv; omega
        · exact .tail _ (hc x hx nd hnd (by omega) k hk)
      obtain ⟨k1, k2, k3, k4⟩ := key l (a :: S) hTs hc1
      refine ⟨fun x hx => k1 x (by simp [hx]), k1 a (by simp), fun x hx nd hnd hlv k hk => ?_, fun x hx => ?_⟩
      · by_cases hle : nd.lv ≤ n
        · exact k3 x hx nd hnd hle k hk
        · rcases k4 x hx with hx | ⟨e, he, hx⟩
          · rcases List.mem_cons.1 hx with rfl | hx
            · rw [h] at hnd; cases hnd
              unfold kids at hk
              rw [if_neg (by simp)] at hk
              obtain ⟨e, he, rfl⟩ := List.mem_map.1 hk
              exact k2 e he
            · exact k1 k (.tail _ (hc x hx nd hnd hlv k hk))
          · obtain ⟨L1, s1, c1, ht1⟩ := hTs e he
            obtain ⟨nd', h1, h2⟩ := pgs_lv ht1 x hx
            rw [hnd] at h1; cases h1
            exact absurd h2 hle
      · rcases k4 x hx with hx | ⟨e, he, hx⟩
        · rcases List.mem_cons.1 hx with rfl | hx
          · right; exact self_pgs
          · exact .inl hx
        · right
          unfold pgs
          rw [h]
          exact .tail _ (List.mem_flatMap.2 ⟨e, he, hx⟩)
theorem pgs_in : ∀ {n : Nat} {S : List Int} {a : Int} {L : List Pr} {s c : Nat}, T M n a L s c → Cl M n S → a ∈ S → ∀ x ∈ pgs M n a, x ∈ S
  | 0, S, a, L, s, c, h, hc, ha, x, hx => by simp [pgs] at hx; subst hx; exact ha
  | n + 1, S, a, L, s, c, ⟨l, h, hs, ht⟩, hc, ha, x, hx => by
    unfold pgs at hx
    rw [h] at hx
    rcases List.mem_cons.1 hx with rfl | hx
    · exact ha
    · obtain ⟨e, he, hxe⟩ := List.mem_flatMap.1 hx
      obtain ⟨L1, s', c', h1, _⟩ := ht.mem he
      refine pgs_in h1 (fun y hy nd hnd hlv k hk => hc y hy nd hnd (by omega) k hk) (hc a ha _ h (Nat.le_refl _) e.2 ?_) x hxe
      unfold kids
      rw [if_neg (by simp)]
      exact List.mem_map_of_mem he
/-- what is gathered are the pages of the tree. -/
theorem gath_pgs {n : Nat} {a : Int} {L : List Pr} {s c : Nat} (h : T M n a L s c) (x : Int) : x ∈ gath M n [] a ↔ x ∈ pgs M n a := by
  obtain ⟨g1, g2, g3, g4⟩ := gath_spec (S := []) h (fun x hx => by simp at hx)
  exact ⟨fun hx => (g4 x hx).elim (fun h => by simp at h) id, pgs_in h g3 g2 x⟩
/-- a page of the tree, by its level. -/
theorem pgs_at : ∀ {n : Nat} {a : Int} {L : List Pr} {s c : Nat}, T M n a L s c → ∀ x ∈ pgs M n a, ∀ nd, M x = some nd → x ∈ pgsAt M nd.lv n a
  | 0, a, L, s, c, h, x, hx, nd, hnd => by
    simp [pgs] at hx; subst hx
    rw [h.1] at hnd; cases hnd
    simp [pgsAt]
  | n + 1, a, L, s, c, ⟨l, h, hs, ht⟩, x, hx, nd, hnd => by
    unfold pgs at hx
    rw [h] at hx
    rcases List.mem_cons.1 hx with rfl | hx
    · rw [h] at hnd; cases hnd
      unfold pgsAt; rw [if_pos rfl]; simp
    · obtain ⟨e, he, hxe⟩ := List.mem_flatMap.1 hx
      obtain ⟨L1, s', c', h1, _⟩ := ht.mem he
      obtain ⟨nd', h2, h3⟩ := pgs_lv h1 x hxe
      rw [hnd] at h2; cases h2
      have := pgs_at h1 x hxe nd hnd
      unfold pgsAt
      rw [if_neg (by omega), h]
      exact List.mem_flatMap.2 ⟨e, he, this⟩
end
end Go.Proofs.YtemenmmekddjaaaGreatDoor
end
section
namespace Go.Proofs.YtemenmmekddjaaaGreatDoor
open Go Go.Wx Go.W
variable {ω : Go.W.Origin}
def setF1 (S : List Int) : Int → Option Value := fun a => if a ∈ S then some (int 1) else none
section
variable {G H H' R Hb Hc Hv P Rl : List Blk} {w : World} {k : K} {b bb sb ms : Nat} {σ σ' : Sto} {wv : Value}
theorem bt_gather (hok : ∀ b x, σ.nd b = some x → NdOk x) (h : WldR G b bb sb σ wv P Hb) : ∀ (n : Nat) {a : Int} {L : List Pr} {s c : Nat} {S : List Int} {es : List MapEntry} {clock : Nat} {R : List Blk} {w : World} {k : K}, T σ.nd n a L s c → MapOf es clock (setF1 S) → Sat G w (Hb ++ ((ms, Obj.map es.toArray clock) :: R)) →
    (∀ es' clock' w', MapOf es' clock' (setF1 (gath σ.nd n S a)) → Sat G w' (Hb ++ ((ms, Obj.map es'.toArray clock') :: R)) → k (.tuple #[]) w') →
    call Tryz.prog w 128 [ptr b, int a, .map (some ms)] k := by
  intro n
  induction n with
  | zero =>
    intro a L s c S es clock R w k ht hmo hs hk
    refine b_btree_gather_walk ?_
    unfold b_btree_gather
    obtain ⟨hl, -, -⟩ := ht
    obtain ⟨p, hp, hpn⟩ := pg_of_nd hl
    have hpok : NdOk p.n := hok a _ (by rw [hl, hpn])
    refine pages_Get hs h .here hp fun v0 X w hnd hs => ?_
    obtain ⟨k3, u3, rfl, g1, g2⟩ := hnd
    rw [hpn] at g1 g2 hpok
    simp only at g1 g2
    have h7 := hpok.2.2.1
    simp only at h7
    refine tup_r rfl (tup_r rfl ?_)
    refine new_r (cs := [int 0, .slice none 0 0, .slice none 0 0]) hs fun b9 w hs => ?_
    refine stN_r (vs := [int p.n.lv, k3, u3]) hs .head rfl (by simp) (fun y hy => by
      simp only [List.mem_cons, List.not_mem_nil, or_false] at hy
      rcases hy with rfl | rfl | rfl
      · rfl
      · exact g1.one
      · exact g2.one) fun w hs => ?_
    have hlv : p.n.lv = 0 := by rw [hpn]
    rw [hlv] at hs
    have hs : Sat G w ((b9, row 119 [int 0, k3, u3]) :: (X ++ (Hb ++ ((ms, Obj.map es.toArray clock) :: R)))) := hs
    refine eq_nn (Br_f ?_)
    refine lkp_r hs (show (ms, Obj.map es.toArray clock) ∈ _ by simp) hmo ?_
    unfold gath at hk
    by_cases ha : a ∈ S
    · have hf : setF1 S a = some (int 1) := if_pos ha
      rw [hf]
      dsimp only
      rw [if_neg (by decide)]
      refine bin_gtr (Br_d (fun _ => ?_) (fun h => absurd (by decide) h))
      rw [if_pos ha] at hk
      exact hk es clock w hmo hs.tail.drop
    · have hf : setF1 S a = none := if_neg ha
      rw [hf]
      dsimp only
      rw [if_neg (by decide)]
      refine bin_gtr (Br_d (fun h => absurd h (by decide)) (fun _ => ?_))
      rw [if_neg ha] at hk
      refine mput_r (R := (b9, row 119 [int 0, k3, u3]) :: (X ++ (Hb ++ R))) hs (.cons (.app (.app .head))) hmo fun es' clock' w hmo' hs => ?_
      have hfu : fupd (setF1 S) a (some (int 1)) = setF1 (a :: S) := by
        funext m
        unfold fupd setF1
        by_cases e : m = a
        · subst e; simp
        · simp [e]
      rw [hfu] at hmo'
      refine add_r (ld_r hs (.tail _ (.head _)) rfl ?_)
      refine (g2.mono (H' := X) fun q hq => hq).len L.length (by simp) (by decide) ?_
      refine loop_r (fun cc vs w => ∃ i : Nat, i ≤ L.length ∧ vs = [int i] ∧ cc = L.length - i ∧ Sat G w ((ms, Obj.map es'.toArray clock') :: (b9, row 119 [int 0, k3, u3]) :: (X ++ (Hb ++ R)))) L.length ⟨0, by omega, rfl, rfl, hs⟩ ?_
      clear hs
      rintro J cc vs w next ⟨i, hi, rfl, rfl, hs⟩ hnext
      refine bin_lss (Br_d (fun hc => ?_) (fun hc => ?_))
      · have hi' : i < L.length := by
          have : (i : Int) < L.length := hc
          omega
        refine (g2.mono fun q hq => by simp [hq]).ld1 hs (i := i) (by simpa using hi') ?_
        refine add_r (ld_r hs (.tail _ (.head _)) rfl (bin_gtr (Br_d (fun h0 => by omega) (fun _ => ?_))))
        exact bin_add (by omega) (by omega) (hnext (L.length - (i + 1)) _ _ (by omega) ⟨i + 1, by omega, rfl, rfl, hs⟩)
      · exact hk es' clock' w hmo' ((hs.perm (H' := ((b9, row 119 [int 0, k3, u3]) :: X) ++ (Hb ++ ((ms, Obj.map es'.toArray clock') :: R))) (by refine perm_of_cnt fun a => ?_; simp only [cnt_app, cnt_cons, cnt_nil] at *; omega)).drop)
  | succ n ih =>
    intro a L s c S es clock R w k ht hmo hs hk
    refine b_btree_gather_walk ?_
    unfold b_btree_gather
    obtain ⟨l, hl, -, ht⟩ := ht
    obtain ⟨p, hp, hpn⟩ := pg_of_nd hl
    have hpok : NdOk p.n := hok a _ (by rw [hl, hpn])
    refine pages_Get hs h .here hp fun v0 X w hnd hs => ?_
    obtain ⟨k3, u3, rfl, g1, g2⟩ := hnd
    rw [hpn] at g1 g2 hpok
    simp only at g1 g2
    have h7 := hpok.2.2.1
    simp only at h7
    refine tup_r rfl (tup_r rfl ?_)
    refine new_r (cs := [int 0, .slice none 0 0, .slice none 0 0]) hs fun b9 w hs => ?_
    refine stN_r (vs := [int p.n.lv, k3, u3]) hs .head rfl (by simp) (fun y hy => by
      simp only [List.mem_cons, List.not_mem_nil, or_false] at hy
      rcases hy with rfl | rfl | rfl
      · rfl
      · exact g1.one
      · exact g2.one) fun w hs => ?_
    have hlv : p.n.lv = n + 1 := by rw [hpn]
    have hs : Sat G w ((b9, row 119 [int p.n.lv, k3, u3]) :: (X ++ (Hb ++ ((ms, Obj.map es.toArray clock) :: R)))) := hs
    refine eq_nn (Br_f ?_)
    refine lkp_r hs (show (ms, Obj.map es.toArray clock) ∈ _ by simp) hmo ?_
    unfold gath at hk
    by_cases ha : a ∈ S
    · have hf : setF1 S a = some (int 1) := if_pos ha
      rw [hf]
      dsimp only
      rw [if_neg (by decide)]
      refine bin_gtr (Br_d (fun _ => ?_) (fun h => absurd (by decide) h))
      rw [if_pos ha] at hk
      exact hk es clock w hmo hs.tail.drop
    · have hf : setF1 S a = none := if_neg ha
      rw [hf]
      dsimp only
      rw [if_neg (by decide)]
      refine bin_gtr (Br_d (fun h => absurd h (by decide)) (fun _ => ?_))
      rw [if_neg ha, hl] at hk
      dsimp only at hk
      refine mput_r (R := (b9, row 119 [int p.n.lv, k3, u3]) :: (X ++ (Hb ++ R))) hs (.cons (.app (.app .head))) hmo fun es' clock' w hmo' hs => ?_
      have hfu : fupd (setF1 S) a (some (int 1)) = setF1 (a :: S) := by
        funext m
        unfold fupd setF1
        by_cases e : m = a
        · subst e; simp
        · simp [e]
      rw [hfu] at hmo'
      refine add_r (ld_r hs (.tail _ (.head _)) rfl ?_)
      refine (g2.mono (H' := X) fun q hq => hq).len l.length (by simp) (by decide) ?_
      refine loop_r (fun cc vs w => ∃ (i : Nat) (es' : List MapEntry) (clock' : Nat), i ≤ l.length ∧ vs = [int i] ∧ cc = l.length - i ∧ MapOf es' clock' (setF1 ((l.take i).foldl (fun S e => gath σ.nd n S e.2) (a :: S))) ∧ Sat G w ((ms, Obj.map es'.toArray clock') :: (b9, row 119 [int p.n.lv, k3, u3]) :: (X ++ (Hb ++ R)))) l.length ⟨0, es', clock', by omega, rfl, rfl, hmo', hs⟩ ?_
      clear hs hmo' es' clock'
      rintro J cc vs w next ⟨i, es', clock', hi, rfl, rfl, hmo', hs⟩ hnext
      refine bin_lss (Br_d (fun hc => ?_) (fun hc => ?_))
      · have hi' : i < l.length := by
          have : (i : Int) < l.length := hc
          omega
        refine (g2.mono fun q hq => by simp [hq]).ld1 hs (i := i) (by simpa using hi') ?_
        refine add_r (ld_r hs (.tail _ (.head _)) rfl (bin_gtr (Br_d (fun _ => ?_) (fun h0 => by omega))))
        obtain ⟨L1, s', c', h1, _⟩ := ht.mem (List.getElem_mem hi')
        rw [List.getElem_map]
        refine ih (R := (b9, row 119 [int p.n.lv, k3, u3]) :: (X ++ R)) h1 hmo' (hs.perm (by refine perm_of_cnt fun a => ?_; simp only [cnt_app, cnt_cons, cnt_nil] at *; omega)) fun es2 clock2 w hmo2 hs => ?_
        refine bin_add (by omega) (by omega) (hnext (l.length - (i + 1)) _ _ (by omega) ⟨i + 1, es2, clock2, by omega, rfl, rfl, ?_, hs.perm (by refine perm_of_cnt fun a => ?_; simp only [cnt_app, cnt_cons, cnt_nil] at *; omega)⟩)
        rw [List.take_add_one, List.getElem?_eq_getElem hi', List.foldl_append]
        exact hmo2
      · have hi' : i = l.length := by
          have : ¬ (i : Int) < l.length := hc
          omega
        subst hi'
        rw [List.take_length] at hmo'
        exact hk es' clock' w hmo' ((hs.perm (H' := ((b9, row 119 [int p.n.lv, k3, u3]) :: X) ++ (Hb ++ ((ms, Obj.map es'.toArray clock') :: R))) (by refine perm_of_cnt fun a => ?_; simp only [cnt_app, cnt_cons, cnt_nil] at *; omega)).drop)
/-- the pages of a root, rising. -/
def TreeL (M : Int → Option Nd) (a : Int) (l : List Int) : Prop := l.Pairwise (· < ·) ∧ ((M a = none ∧ l = []) ∨ ∃ n L s c, T M n a L s c ∧ ∀ x, x ∈ l ↔ x ∈ pgs M n a)
theorem bt_Pages {a : Int} {L : List Pr} (hs : Sat G w H) (h : WldR G b bb sb σ wv P Hb) (hsel : Sel Hb H R) (hok : ∀ b x, σ.nd b = some x → NdOk x) (ht : RootT σ.nd a L) (hlen : ∀ D : List Int, D.Nodup → (∀ a ∈ D, σ.pg a ≠ none) → D.length < 65536)
    (hk : ∀ v l Ho w', TreeL σ.nd a l → W.Own 3 1 v (l.map int) Ho → Sat G w' (Ho ++ H) → k v w') : call Tryz.prog w 78 [ptr b, int a] k := by
  refine b_btree_Pages_walk ?_
  unfold b_btree_Pages
  have hpm := hsel.perm
  have hs := hs.sel hsel
  refine nmap_r hs fun ms w hs => ?_
  have hmo0 : MapOf ([] : List MapEntry) 0 (setF1 []) := ⟨by simp, by simp, fun n v => by simp [setF1], by simp, by simp⟩
  have rest : ∀ (S : List Int) (es : List MapEntry) (clock : Nat) (w : World), MapOf es clock (setF1 S) → (∀ x ∈ S, σ.pg x ≠ none) → (∀ l : List Int, l.Pairwise (· < ·) → (∀ x, x ∈ l ↔ x ∈ S) → TreeL σ.nd a l) → Sat G w (Hb ++ ((ms, Obj.map es.toArray clock) :: R)) →
      (raw Tryz.prog w (Instr.range 63 (.map (some ms))) fun t14 w =>
      loop [(.slice none 0 0)] w fun J1 s1 next1 w =>
      raw Tryz.prog w (Instr.next t14 false 0) fun t15 w =>
      tup w 0 t15 fun t16 w =>
      Br t16 (
        raw Tryz.prog w (Instr.entry t14) fun t17 w =>
        tup w 0 t17 fun t18 w =>
        bldS w 3 1 1 [.int .i64 0] [(0, t18)] fun t21 w =>
        app w 3 1 8 #[.int .i64 0] (at' s1 0) t21 fun t22 w =>
        next1 [t22] w
      ) (
        call Tryz.prog w 116 [(at' s1 0)] fun t24 w =>
        k (at' s1 0) w
      )) := by
    intro S es clock w hmo hSp hTL hs
    obtain ⟨ks, hks, hkn, hkm⟩ := MapOf.ks hmo
    have hkS : ∀ x, x ∈ ks ↔ x ∈ S := fun x => by
      rw [hkm]
      unfold setF1
      split <;> simp_all
    have hkl : ks.length < 65536 := hlen ks hkn fun x hx => hSp x ((hkS x).1 hx)
    have hle : es.length = ks.length := by simpa using congrArg List.length hks
    have hT : (Tryz.prog).underlying 63 = some (.map 3 3) := by kernel_rfl
    refine range_r hT hs (show (ms, Obj.map es.toArray clock) ∈ _ by simp) fun r w hs => ?_
    refine loop_r (fun cc vs w => ∃ (vis : List MapEntry) (pre : List Int) (v : Value) (Hv : List Blk), vs = [v] ∧ cc = es.length - vis.length ∧ vis.Nodup ∧ (∀ e ∈ vis, e ∈ es) ∧ vis.map (·.key) = pre.map int ∧ W.Own 3 1 v (pre.map int) Hv ∧ Sat G w ((r, iterO ms clock vis) :: (Hv ++ (Hb ++ ((ms, Obj.map es.toArray clock) :: R))))) es.length ⟨[], [], _, [], rfl, rfl, .nil, by simp, rfl, .nil, hs⟩ ?_
    clear hs
    rintro J cc vs w next ⟨vis, pre, v, Hv, rfl, rfl, hvn, hve, hvk, ho, hs⟩ hnext
    have hlv : vis.length = pre.length := by simpa using congrArg List.length hvk
    have hvle := sub_len hvn hve
    have hin : (ms, Obj.map es.toArray clock) ∈ Hv ++ (Hb ++ ((ms, Obj.map es.toArray clock) :: R)) := by simp
    refine next_r hs hin hmo.born hmo.bnodup hve (fun hall hs => ?_) (fun e he hne w' hs => ?_)
    · refine tup_r rfl (Br_f ?_)
      have hpmv : vis.Perm es := (List.perm_ext_iff_of_nodup hvn ((List.pairwise_map.1 hmo.bnodup).imp fun h e => h (congrArg _ e))).2 fun e => ⟨hve e, hall e⟩
      have hpk : (pre.map int).Perm (ks.map int) := by rw [← hvk, ← hks]; exact hpmv.map _
      have hpk2 : pre.Perm ks := by
        have := hpk.map (fun v => match v with | .int _ x => x | _ => 0)
        rw [List.map_map, List.map_map] at this
        simpa [Function.comp_def] using this
      refine slices_Sort hs ho (.cons .here) (by rw [hpk2.length_eq]; exact hkl) fun Hv' w ho' hs => ?_
      have hpS : (sortL pre).Perm ks := (sortL_perm pre).trans hpk2
      have hsn : (sortL pre).Nodup := hpS.symm.nodup_iff.1 hkn
      refine hk v (sortL pre) Hv' w (hTL _ ?_ fun x => by rw [hpS.mem_iff, hkS]) ho' ((hs.perm (H' := [(r, iterO ms clock vis), (ms, Obj.map es.toArray clock)] ++ (Hv' ++ H)) (by refine perm_of_cnt fun a => ?_; have q0 := cnt_perm hpm a; simp only [cnt_app, cnt_cons, cnt_nil] at *; omega)).drop)
      exact List.pairwise_iff_getElem.2 fun i j hi hj hij => by
        have h1 := List.pairwise_iff_getElem.1 (sortL_sorted pre) i j hi hj hij
        have h2 := List.pairwise_iff_getElem.1 hsn i j hi hj hij
        omega
    · refine tup_r rfl (Br_t ?_)
      obtain ⟨x, hx⟩ : ∃ x, e.key = int x := by
        have : e.key ∈ ks.map int := hks ▸ List.mem_map.2 ⟨e, he, rfl⟩
        obtain ⟨x, _, hx⟩ := List.mem_map.1 this
        exact ⟨x, hx.symm⟩
      have hlt : vis.length < es.length := by
        have := sub_len (l := e :: vis) (m := es) (List.nodup_cons.2 ⟨hne, hvn⟩) (fun y hy => by
          rcases List.mem_cons.1 hy with rfl | hy
          · exact he
          · exact hve y hy)
        simp at this; omega
      refine entry_r hs hin he hmo.bnodup ?_
      rw [hx]
      refine tup_r rfl ?_
      refine app1_r hs ho (.cons .here) rfl (by decide) (by simp; omega) fun v' Hv' w ho' hs => ?_
      refine hnext (es.length - (vis.length + 1)) _ _ (by omega) ⟨vis ++ [e], pre ++ [x], v', Hv', rfl, by simp, List.nodup_append.2 ⟨hvn, by simp, fun a ha b hb => by simp at hb; subst hb; intro e'; subst e'; exact hne ha⟩, fun y hy => ?_, by rw [List.map_append, List.map_append, hvk]; simp [hx], by simpa using ho', hs.perm (by refine perm_of_cnt fun a => ?_; simp only [cnt_app, cnt_cons, cnt_nil] at *; omega)⟩
      rcases List.mem_append.1 hy with hy | hy
      · exact hve y hy
      · simp at hy; subst hy; exact he
  rcases ht with ⟨hn, rfl⟩ | ⟨n, s, c, ht⟩
  · refine b_btree_gather_walk ?_
    unfold b_btree_gather
    refine pages_Get_none hs h (.cons .here) (nd_none.1 hn) fun w hs => ?_
    refine tup_r rfl (tup_r rfl ?_)
    refine new_r (cs := [int 0, .slice none 0 0, .slice none 0 0]) hs fun b9 w hs => ?_
    refine stN_r (vs := [int 0, .slice none 0 0, .slice none 0 0]) hs .head rfl (by simp) (by simp [Value.oneCell']) fun w hs => ?_
    refine eq_ifn (Br_t ?_)
    exact rest [] [] 0 w hmo0 (by simp) (fun l hl hx => ⟨hl, .inl ⟨hn, List.eq_nil_iff_forall_not_mem.2 fun x hm => by have := (hx x).1 hm; simp at this⟩⟩) (hs.tail.perm (by refine perm_of_cnt fun a => ?_; simp only [cnt_app, cnt_cons, cnt_nil] at *; omega))
  · refine bt_gather (ms := ms) (S := []) (R := R) hok h n ht hmo0 (hs.perm (by refine perm_of_cnt fun a => ?_; simp only [cnt_app, cnt_cons, cnt_nil] at *; omega)) fun es' clock' w hmo hs => ?_
    have hgp := gath_pgs ht
    refine rest _ es' clock' w hmo (fun x hx => ?_) (fun l hl hx => ⟨hl, .inr ⟨n, L, s, c, ht, fun x => by rw [hx, hgp]⟩⟩) hs
    obtain ⟨nd, h1, _⟩ := pgs_lv ht x ((hgp x).1 hx)
    intro hn
    rw [nd_none.2 hn] at h1; cases h1
end
end Go.Proofs.YtemenmmekddjaaaGreatDoor
end
section
namespace Go.Proofs.YtemenmmekddjaaaGreatDoor
open Go Go.Wx Go.W
variable {ω : Go.W.Origin}
section
variable {G H H' R Hb Hc Hv P Rl : List Blk} {w : World} {k : K} {b bb sb ms : Nat} {σ σ' : Sto} {wv : Value}
theorem rd_fst {l : List Pr} {v : Value} {i : Nat} {j : IntKind} (h : Rd 2 v (prs l) H) (hs : Sat G w H) (hi : i < l.length) (hk : k (int l[i].1) w) : W.idx w 2 v (.int j i) fun t w => W.add w 0 t fun t w => W.ld w t k :=
  Rd.idx (f := pr) h (fun _ _ => rfl) (by decide) hi fun _ _ hl => add_r (hl.ld hs rfl hk)
theorem rd_snd {l : List Pr} {v : Value} {i : Nat} {j : IntKind} (h : Rd 2 v (prs l) H) (hs : Sat G w H) (hi : i < l.length) (hk : k (int l[i].2) w) : W.idx w 2 v (.int j i) fun t w => W.add w 1 t fun t w => W.ld w t k :=
  Rd.idx (f := pr) h (fun _ _ => rfl) (by decide) hi fun _ _ hl => add_r (hl.ld (i := 1) hs rfl hk)
theorem last_le {l : List Pr} (hl : Srt l) (h0 : l ≠ []) : ∀ e ∈ l, e.1 ≤ (l[l.length - 1]'(by have := List.length_pos_iff.2 h0; omega)).1 := by
  intro e he
  obtain ⟨i, hi, rfl⟩ := List.getElem_of_mem he
  by_cases h : i = l.length - 1
  · subst h; omega
  · have := List.pairwise_iff_getElem.1 hl i (l.length - 1) hi (by omega) (by omega)
    omega
theorem bt_CheckT (hok : ∀ b x, σ.nd b = some x → NdOk x) (h : WldR G b bb sb σ wv P Hb) : ∀ (n : Nat) {a : Int} {L : List Pr} {s c : Nat} {R : List Blk} {w : World} {k : K}, T σ.nd n a L s c → a ≠ 0 → σ.pg 0 = none → Srt L → (∀ e ∈ L, 0 ≤ e.1) → L.length < 100000 → Sat G w (Hb ++ R) →
    (∀ w', Sat G w' (Hb ++ R) → k .nilIface w') → call Tryz.prog w 76 [ptr b, int a] k := by
  intro n
  induction n with
  | zero =>
    intro a L s c R w k ht ha hz hL hpos hlen hs hk
    refine b_btree_Check_walk ?_
    unfold b_btree_Check
    obtain ⟨hl, -, -⟩ := ht
    obtain ⟨p, hp, hpn⟩ := pg_of_nd hl
    refine bin_eql (Br_eq (fun h => absurd h ha) (fun _ => ?_))
    refine pages_Get hs h .here hp fun v0 X w hnd hs => ?_
    obtain ⟨k3, u3, rfl, g1, g2⟩ := hnd
    refine tup_r rfl (tup_r rfl ?_)
    refine new_r (cs := [int 0, .slice none 0 0, .slice none 0 0]) hs fun b9 w hs => ?_
    refine stN_r (vs := [int p.n.lv, k3, u3]) hs .head rfl (by simp) (fun y hy => by
      simp only [List.mem_cons, List.not_mem_nil, or_false] at hy
      rcases hy with rfl | rfl | rfl
      · rfl
      · exact g1.one
      · exact g2.one) fun w hs => ?_
    have hlv : p.n.lv = 0 := by rw [hpn]
    rw [hlv] at hs
    have hs : Sat G w ((b9, row 119 [int 0, k3, u3]) :: (X ++ (Hb ++ R))) := hs
    refine eq_nn (Br_f ?_)
    refine add_r (ld_r hs (.head _) rfl (bin_eql (Br_eq (fun _ => ?_) (fun h => absurd rfl h))))
    exact hk w hs.tail.drop
  | succ n ih =>
    intro a L s c R w k ht ha hz hL hpos hlen hs hk
    refine b_btree_Check_walk ?_
    unfold b_btree_Check
    obtain ⟨l, hl, -, ht⟩ := ht
    obtain ⟨p, hp, hpn⟩ := pg_of_nd hl
    have hpok : NdOk p.n := hok a _ (by rw [hl, hpn])
    refine bin_eql (Br_eq (fun h => absurd h ha) (fun _ => ?_))
    refine pages_Get hs h .here hp fun v0 X w hnd hs => ?_
    obtain ⟨k3, u3, rfl, g1, g2⟩ := hnd
    rw [hpn] at g1 g2 hpok
    simp only at g1 g2
    have h7 := hpok.2.2.1
    simp only at h7
    refine tup_r rfl (tup_r rfl ?_)
    refine new_r (cs := [int 0, .slice none 0 0, .slice none 0 0]) hs fun b9 w hs => ?_
    refine stN_r (vs := [int p.n.lv, k3, u3]) hs .head rfl (by simp) (fun y hy => by
      simp only [List.mem_cons, List.not_mem_nil, or_false] at hy
      rcases hy with rfl | rfl | rfl
      · rfl
      · exact g1.one
      · exact g2.one) fun w hs => ?_
    have hlv : p.n.lv = n + 1 := by rw [hpn]
    have hs : Sat G w ((b9, row 119 [int p.n.lv, k3, u3]) :: (X ++ (Hb ++ R))) := hs
    refine eq_nn (Br_f ?_)
    refine add_r (ld_r hs (.head _) rfl (bin_eql (Br_eq (fun h => absurd h (by omega)) (fun _ => ?_))))
    refine add_r (ld_r hs (.head _) rfl ?_)
    refine (g1.mono (H' := X) fun q hq => hq).len l.length (by simp) (by decide) ?_
    refine loop_r (fun cc vs w => ∃ (i : Nat) (last : Int) (Lr : List Pr) (u2 : Nat), i ≤ l.length ∧ vs = [int last, int i] ∧ cc = l.length - i ∧ Ts (T σ.nd n) n (l.drop i) Lr u2 ∧ Srt Lr ∧ (∀ e ∈ Lr, last < e.1 ∧ 0 ≤ e.1) ∧ Lr.length ≤ L.length ∧ Sat G w ((b9, row 119 [int p.n.lv, k3, u3]) :: (X ++ (Hb ++ R)))) l.length ⟨0, -1, L, c, by omega, rfl, rfl, ht, hL, fun e he => ⟨by have := hpos e he; omega, hpos e he⟩, by omega, hs⟩ ?_
    clear hs
    rintro J cc vs w next ⟨i, last, Lr, u2, hi, rfl, rfl, hts, hLr, hgt, hlr, hs⟩ hnext
    refine bin_lss (Br_d (fun hc => ?_) (fun hc => ?_))
    · have hi' : i < l.length := by
        have : (i : Int) < l.length := hc
        omega
      have hdrop : l.drop i = (l[i].1, l[i].2) :: l.drop (i + 1) := by rw [List.getElem_cons_drop]
      rw [hdrop] at hts
      obtain ⟨L1, L2, s1, c1, u', t1, t2, t3, rfl, rfl⟩ := hts.uncons
      have hm : ∀ q ∈ X, q ∈ (b9, row 119 [int p.n.lv, k3, u3]) :: (X ++ (Hb ++ R)) := fun q hq => by simp [hq]
      refine (g1.mono hm).ld1 hs (i := i) (by simpa using hi') ?_
      refine add_r (ld_r hs (.head _) rfl ?_)
      refine (g2.mono hm).ld1 hs (i := i) (by simpa using hi') ?_
      rw [List.getElem_map, List.getElem_map]
      obtain ⟨m1, hm1, -⟩ := t1.at
      obtain ⟨p2, hp2, hpn2⟩ := pg_of_nd hm1
      have hz1 : l[i].2 ≠ 0 := fun e => by rw [e, hz] at hp2; cases hp2
      have hs1 : Srt L1 := hLr.sub (List.sublist_append_left _ _)
      refine ih (R := (b9, row 119 [int p.n.lv, k3, u3]) :: (X ++ R)) t1 hz1 hz hs1 (fun e he => (hgt e (by simp [he])).2) (by simp at hlr; omega) (hs.perm (by refine perm_of_cnt fun a => ?_; simp only [cnt_app, cnt_cons, cnt_nil] at *; omega)) fun w hs => ?_
      refine eq_nn (Br_f ?_)
      have hs := hs.perm (H' := (b9, row 119 [int p.n.lv, k3, u3]) :: (X ++ (Hb ++ R))) (by refine perm_of_cnt fun a => ?_; simp only [cnt_app, cnt_cons, cnt_nil] at *; omega)
      refine add_r (ld_r hs (.head _) rfl ?_)
      refine (g2.mono hm).ld1 hs (i := i) (by simpa using hi') ?_
      rw [List.getElem_map]
      refine pages_Get hs h (.cons (.app .here)) hp2 fun v2 X2 w hnd hs => ?_
      obtain ⟨k4, u4, rfl, g3, g4⟩ := hnd
      refine tup_r rfl (tup_r rfl ?_)
      refine new_r (cs := [int 0, .slice none 0 0, .slice none 0 0]) hs fun b10 w hs => ?_
      refine stN_r (vs := [int p2.n.lv, k4, u4]) hs .head rfl (by simp) (fun y hy => by
        simp only [List.mem_cons, List.not_mem_nil, or_false] at hy
        rcases hy with rfl | rfl | rfl
        · rfl
        · exact g3.one
        · exact g4.one) fun w hs => ?_
      have hlv2 : p2.n.lv = n := by rw [hpn2]
      have hs : Sat G w ((b10, row 119 [int p2.n.lv, k4, u4]) :: (X2 ++ ((b9, row 119 [int p.n.lv, k3, u3]) :: (X ++ (Hb ++ R))))) := hs
      have hm2 : ∀ q ∈ X, q ∈ (b10, row 119 [int p2.n.lv, k4, u4]) :: (X2 ++ ((b9, row 119 [int p.n.lv, k3, u3]) :: (X ++ (Hb ++ R)))) := fun q hq => by simp [hq]
      refine add_r (ld_r hs (by repeat (first | exact List.Mem.head _ | apply List.Mem.tail | apply List.mem_append_right)) rfl ?_)
      refine (g2.mono hm2).ld1 hs (i := i) (by simpa using hi') ?_
      rw [List.getElem_map]
      refine bt_Items hs h (.cons (.app (.cons (.app .here)))) hok (.inr ⟨_, _, _, t1⟩) (fun e he => (hgt e (by simp [he])).2) (by simp at hlr; omega) fun v3 Ho w ho hs => ?_
      obtain ⟨a2, c2, hv3⟩ := own_slice ho
      have hro : Rd 2 v3 (prs L1) (Ho ++ ((b10, row 119 [int p2.n.lv, k4, u4]) :: (X2 ++ ((b9, row 119 [int p.n.lv, k3, u3]) :: (X ++ (Hb ++ R)))))) := ho.rd fun q hq => by simp [hq]
      have h1 : L1 ≠ [] := fun e => by rw [e] at t2; cases t2
      have h1l : 0 < L1.length := List.length_pos_iff.2 h1
      have hlr' : L1.length + L2.length ≤ L.length := by simpa using hlr
      have h20 := hpok.1
      simp only at h20
      refine hro.len L1.length (prs_len _) (by decide) ?_
      refine bin_eql (Br_eq (fun h => absurd h (by omega)) (fun _ => ?_))
      refine rd_fst (i := 0) hro hs h1l ?_
      have hk1 : L1[0].1 = l[i].1 := by
        have : L1.head? = some L1[0] := by rw [List.head?_eq_getElem?, List.getElem?_eq_getElem h1l]
        unfold hd? at t2
        rw [this] at t2
        simpa using t2
      rw [hk1]
      refine bin_neq ?_
      rw [show (l[i].1 != l[i].1) = false by simp]
      refine Br_f ?_
      refine bin_leq (Br_d (fun hle => ?_) (fun _ => ?_))
      · have := (hgt L1[0] (by simp)).1
        omega
      refine add_r (ld_r hs (by repeat (first | exact List.Mem.head _ | apply List.Mem.tail | apply List.mem_append_right)) rfl (add_r (ld_r hs (by repeat (first | exact List.Mem.head _ | apply List.Mem.tail | apply List.mem_append_right)) rfl ?_)))
      refine bin_sub (by omega) (by omega) (bin_neq ?_)
      rw [show ((p2.n.lv : Int) != (p.n.lv : Int) - 1) = false by rw [hlv, hlv2]; simp]
      refine Br_f ?_
      refine hro.len L1.length (prs_len _) (by decide) ?_
      refine bin_sub (by omega) (by omega) ?_
      rw [show (L1.length : Int) - 1 = ((L1.length - 1 : Nat) : Int) by omega]
      refine rd_fst (i := L1.length - 1) hro hs (by omega) ?_
      refine bin_add (by omega) (by omega) (hnext (l.length - (i + 1)) _ _ (by omega) ⟨i + 1, _, L2, u', by omega, rfl, rfl, t3, hLr.sub (List.sublist_append_right _ _), fun e he => ⟨?_, (hgt e (by simp [he])).2⟩, by simp at hlr; omega, (hs.perm (H' := (Ho ++ (b10, row 119 [int p2.n.lv, k4, u4]) :: X2) ++ ((b9, row 119 [int p.n.lv, k3, u3]) :: (X ++ (Hb ++ R)))) (by refine perm_of_cnt fun a => ?_; simp only [cnt_app, cnt_cons, cnt_nil] at *; omega)).drop⟩)
      exact (List.pairwise_append.1 hLr).2.2 _ (List.getElem_mem _) _ he
    · exact hk w hs.tail.drop
theorem bt_Check {a : Int} {L : List Pr} (hs : Sat G w H) (h : WldR G b bb sb σ wv P Hb) (hsel : Sel Hb H R) (hok : ∀ b x, σ.nd b = some x → NdOk x) (ht : RootT σ.nd a L) (h0 : σ.nd a = none → a = 0) (hz : σ.pg 0 = none) (hL : Srt L) (hpos : ∀ e ∈ L, 0 ≤ e.1) (hlen : L.length < 100000)
    (hk : ∀ w', Sat G w' H → k .nilIface w') : call Tryz.prog w 76 [ptr b, int a] k := by
  have hpm := hsel.perm
  have hs := hs.sel hsel
  rcases ht with ⟨hn, rfl⟩ | ⟨n, s, c, ht⟩
  · have := h0 hn
    subst this
    refine b_btree_Check_walk ?_
    unfold b_btree_Check
    refine bin_eql (Br_eq (fun _ => ?_) (fun h => absurd rfl h))
    exact hk w (hs.perm hpm.symm)
  · obtain ⟨l, hl, -⟩ := ht.at
    have ha : a ≠ 0 := fun e => by rw [e] at hl; rw [nd_none.2 hz] at hl; cases hl
    exact bt_CheckT hok h n ht ha hz hL hpos hlen hs fun w hs => hk w (hs.perm hpm.symm)
end
end Go.Proofs.YtemenmmekddjaaaGreatDoor
end
