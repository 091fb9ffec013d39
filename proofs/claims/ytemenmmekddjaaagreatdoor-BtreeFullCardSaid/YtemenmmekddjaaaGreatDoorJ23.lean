/- The store of pages as plain values: what its calls do, and what stays true of it. No condition. The store of pages: what goes with a page that goes. No condition. What the calls of a tree do to the store, step by step. No condition. Going down a tree: what is put, and what it holds then. No condition. Going down a tree: the law. No condition. A change of a tree: the law. No condition. A change of a tree: the law, whole. No condition. Setting a key and deleting one, as changes of lists; a room without blocks. No condition. -/
import Derived.Test.YtemenmmekddjaaaGreatDoorJ16
import Derived.Test.YtemenmmekddjaaaGreatDoorJ22
set_option linter.all false
set_option linter.unusedVariables false
set_option linter.unusedSimpArgs false
set_option linter.unnecessarySimpa false
set_option linter.unusedSectionVars false
set_option linter.constructorNameAsVariable false
section
namespace Go.Proofs.YtemenmmekddjaaaGreatDoor
structure Pg where
  n : Nd
  holds : Int
  held : Int
structure Sto where
  pg : Int → Option Pg
  ds : List Dev
  was : Option (List Dev)
  bk : List (List Sec)
  done : Nat
def Sto.nd (σ : Sto) : Int → Option Nd := fun a => (σ.pg a).map Pg.n
def Sto.is (σ : Sto) : Int → Bool := fun a => (σ.pg a).isSome
def Sto.set (σ : Sto) (a : Int) (p : Option Pg) : Sto := { σ with pg := fun b => if b = a then p else σ.pg b }
def Sto.add (σ : Sto) (a h : Int) : Sto := σ.set a ((σ.pg a).map fun p => { p with holds := p.holds + h })
def Sto.own (σ : Sto) (a h : Int) : Sto := σ.set a ((σ.pg a).map fun p => { p with held := p.held + h })
def Sto.adds (σ : Sto) (ks : List Int) (h : Int) : Sto := ks.foldl (fun σ k => σ.add k h) σ
def giveAt (ds : List Dev) (was : Option (List Dev)) (i j : Nat) : List Dev := match ds[i]? with
  | some d => ds.set i (d.give (elderAt was i j) j)
  | none => ds
def takeAt (ds : List Dev) (i q : Nat) : List Dev := match ds[i]? with
  | some d => ds.set i (d.take q)
  | none => ds
def writeAt (bk : List (List Sec)) (i j : Nat) (bs : List Nat) : List (List Sec) := match bk[i]? with
  | some l => (match l[j]? with
    | some s => bk.set i (l.set j { s with wait := s.wait ++ [bs] })
    | none => bk)
  | none => bk
/-- the next sector that is taken. -/
def TakeAt (ds : List Dev) (i q : Nat) : Prop := (best ds (actives ds)).1 = i ∧ 0 < (best ds (actives ds)).2 ∧ ∃ d, ds[i]? = some d ∧ d.state = 1 ∧ FirstAt d.size (fun x => !d.tk x && !d.gv x) 2 (some q)
/-- the sector of an address that is taken. -/
def Taken (ds : List Dev) (a : Int) (i j : Nat) : Prop := inRoom ds a = some (i, j) ∧ ∃ d, ds[i]? = some d ∧ d.tk j = true
def Sto.rm (σ : Sto) (a : Int) (i j : Nat) : Sto := { σ.set a none with ds := giveAt σ.ds σ.was i j }
def Sto.put (σ : Sto) (n : Nd) (i q : Nat) : Sto := Sto.adds { σ.set ((i * 4096 + q : Nat) : Int) (some ⟨n, 0, 0⟩) with ds := takeAt σ.ds i q, bk := writeAt σ.bk i q (nodeBytes n), done := σ.done + 1 } (kids n) 1
/-- each of these pages has one hold less; what nobody holds goes. -/
inductive GoneR : Sto → List Int → Sto → Prop
  | nil {σ : Sto} : GoneR σ [] σ
  | keep {σ σ' : Sto} {a : Int} {P : List Int} {p : Pg} (h : σ.pg a = some p) (h2 : 2 ≤ p.holds) (t : GoneR (σ.add a (-1)) P σ') : GoneR σ (a :: P) σ'
  | go {σ σ1 σ' : Sto} {a : Int} {P : List Int} {p : Pg} {i j : Nat} (h : σ.pg a = some p) (h1 : p.holds = 1) (hT : Taken σ.ds a i j) (t1 : GoneR (σ.rm a i j) (kids p.n) σ1) (t : GoneR σ1 P σ') : GoneR σ (a :: P) σ'
inductive PutR (σ : Sto) (n : Nd) : Sto → Option Int → Prop
  | full (h : (best σ.ds (actives σ.ds)).2 = 0) : PutR σ n σ none
  | ok {i q : Nat} (h : TakeAt σ.ds i q) (hd : σ.done < 1000000000) (hb : ∀ k ∈ kids n, ∀ p, σ.pg k = some p → 0 ≤ p.holds ∧ p.holds ≤ 1099511627776) : PutR σ n (σ.put n i q) (some ((i * 4096 + q : Nat) : Int))
/-- may the node be put? -/
def CanPut (σ : Sto) (n : Nd) : Prop := NdOk n ∧ ∀ k ∈ kids n, ∃ q, σ.pg k = some q ∧ q.n.lv + 1 = n.lv
def key0 (n : Nd) : Int := (n.l.head?.map Prod.fst).getD 0
/-- nodes are put one by one. -/
inductive WriteR : Sto → List Int → List Nd → Sto → List Int → Option (List Pr) → Prop
  | nil {σ : Sto} {c : List Int} : WriteR σ c [] σ c (some [])
  | full {σ σ' : Sto} {c : List Int} {n : Nd} {ns : List Nd} (hn : CanPut σ n) (h : PutR σ n σ' none) : WriteR σ c (n :: ns) σ' c none
  | cons {σ σ1 σ' : Sto} {c c' : List Int} {n : Nd} {ns : List Nd} {a : Int} {r : Option (List Pr)} (hn : CanPut σ n) (h : PutR σ n σ1 (some a)) (t : WriteR σ1 (c ++ [a]) ns σ' c' r) : WriteR σ c (n :: ns) σ' c' (r.map fun l => (key0 n, a) :: l)

/-! ### what stays true -/
/-- what is known of the room: P: where pages lie. -/
structure RoomI where
  I : (Int → Bool) → List Dev → Option (List Dev) → Prop
  give : ∀ {P : Int → Bool} {ds : List Dev} {was : Option (List Dev)} {a : Int}, I P ds was → P a = true → ∃ i j, Taken ds a i j ∧ I (fun b => if b = a then false else P b) (giveAt ds was i j) was
  take : ∀ {P : Int → Bool} {ds : List Dev} {was : Option (List Dev)} {i q : Nat}, I P ds was → TakeAt ds i q → i < 8 ∧ 2 ≤ q ∧ q < 4096 ∧ P ((i * 4096 + q : Nat) : Int) = false ∧ I (fun b => if b = ((i * 4096 + q : Nat) : Int) then true else P b) (takeAt ds i q) was
  lim : ∀ {P : Int → Bool} {ds : List Dev} {was : Option (List Dev)}, I P ds was → ∀ d ∈ ds, d.size ≤ 4096
def kidsO : Option Nd → List Int
  | some n => kids n
  | none => []
def refs (M : Int → Option Nd) (D : List Int) (a : Int) : Nat := (D.flatMap fun b => kidsO (M b)).count a
/-- D: the pages; P: holds that are still to be taken off. -/
structure IP (Q : RoomI) (σ : Sto) (D P : List Int) : Prop where
  nodup : D.Nodup
  mem : ∀ a, a ∈ D ↔ σ.pg a ≠ none
  ok : ∀ a p, σ.pg a = some p → NdOk p.n
  kid : ∀ a p, σ.pg a = some p → ∀ k ∈ kids p.n, ∃ q, σ.pg k = some q ∧ q.n.lv + 1 = p.n.lv
  cnt : ∀ a p, σ.pg a = some p → p.holds = p.held + ((refs σ.nd D a + P.count a : Nat) : Int)
  held : ∀ a p, σ.pg a = some p → 0 ≤ p.held ∧ p.held ≤ 1000000
  pend : ∀ a ∈ P, a ∈ D
  room : Q.I σ.is σ.ds σ.was
section
variable {Q : RoomI} {σ σ' : Sto} {D P F : List Int} {a b : Int} {p : Pg}
theorem set_pg (x : Option Pg) : (σ.set a x).pg b = if b = a then x else σ.pg b := rfl
theorem add_pg (h : Int) : (σ.add a h).pg b = if b = a then (σ.pg a).map (fun p => { p with holds := p.holds + h }) else σ.pg b := rfl
theorem add_nd (h : Int) : (σ.add a h).nd = σ.nd := by
  funext b
  unfold Sto.nd
  rw [add_pg]
  split
  · rename_i e; subst e; cases σ.pg b <;> rfl
  · rfl
theorem own_nd (h : Int) : (σ.own a h).nd = σ.nd := by
  funext b
  show (if b = a then (σ.pg a).map (fun p => { p with held := p.held + h }) else σ.pg b).map Pg.n = _
  split
  · rename_i e; subst e; unfold Sto.nd; cases σ.pg b <;> rfl
  · rfl
theorem nd_none : σ.nd a = none ↔ σ.pg a = none := by unfold Sto.nd; simp
theorem is_of_nd (h : σ.nd = σ'.nd) : σ.is = σ'.is := by
  funext b
  have := congrFun h b
  unfold Sto.nd at this
  unfold Sto.is
  cases h1 : σ.pg b <;> cases h2 : σ'.pg b <;> simp_all
theorem adds_nd (h : Int) : ∀ (ks : List Int) (σ : Sto), (σ.adds ks h).nd = σ.nd
  | [], _ => rfl
  | k :: ks, σ => by
    show (Sto.adds (σ.add k h) ks h).nd = _
    rw [adds_nd h ks, add_nd]
theorem adds_rest (h : Int) : ∀ (ks : List Int) (σ : Sto), (σ.adds ks h).ds = σ.ds ∧ (σ.adds ks h).was = σ.was ∧ (σ.adds ks h).bk = σ.bk ∧ (σ.adds ks h).done = σ.done
  | [], _ => ⟨rfl, rfl, rfl, rfl⟩
  | k :: ks, σ => adds_rest h ks (σ.add k h)
theorem adds_pg (h : Int) (b : Int) : ∀ (ks : List Int) (σ : Sto), (σ.adds ks h).pg b = (σ.pg b).map fun p => { p with holds := p.holds + h * (ks.count b : Int) }
  | [], σ => by
    show σ.pg b = _
    cases σ.pg b <;> simp
  | k :: ks, σ => by
    show (Sto.adds (σ.add k h) ks h).pg b = _
    rw [adds_pg h b ks, add_pg]
    by_cases e : b = k
    · subst e
      rw [if_pos rfl]
      cases σ.pg b with
      | none => rfl
      | some p =>
        simp only [Option.map_some, List.count_cons_self, Option.some.injEq, Pg.mk.injEq, true_and, and_true]
        rw [Int.natCast_add, Int.mul_add]; simp; omega
    · rw [if_neg e, List.count_cons_of_ne (fun h => e h.symm)]
theorem IP.rng (h : IP Q σ D P) (ha : σ.pg a ≠ none) : 0 ≤ a ∧ a < 32768 := by
  have hi : σ.is a = true := by unfold Sto.is; cases h1 : σ.pg a with
    | none => exact absurd h1 ha
    | some _ => rfl
  obtain ⟨i, j, hT, _⟩ := Q.give h.room hi
  obtain ⟨_, _, _, _, _, h1, h2, _, _⟩ := inRoom_some hT.1
  exact ⟨h1, h2⟩
theorem nodup_len : ∀ (n : Nat) (D : List Int), D.Nodup → (∀ a ∈ D, 0 ≤ a ∧ a < n) → D.length ≤ n
  | 0, D, _, h => by
    cases D with
    | nil => simp
    | cons a D => have := h a (by simp); omega
  | n + 1, D, hn, h => by
    have h1 := nodup_len n (D.erase n) (hn.erase _) fun a ha => by
      have h2 := h a (List.mem_of_mem_erase ha)
      have h3 : a ≠ n := ((hn.mem_erase_iff).1 ha).1
      omega
    have := List.length_erase_le (a := (n : Int)) (l := D)
    have h2 : D.length ≤ (D.erase n).length + 1 := by
      rw [List.length_erase]; split <;> omega
    omega
theorem IP.dlen (h : IP Q σ D P) : D.length ≤ 32768 := nodup_len 32768 D h.nodup fun a ha => h.rng ((h.mem a).1 ha)
theorem NdOk.kids7 {n : Nd} (h : NdOk n) : (kids n).length ≤ 7 := by
  unfold kids
  split
  · simp
  · simp; exact h.2.2.1
theorem flat7 {f : Int → List Int} : ∀ {D : List Int}, (∀ a ∈ D, (f a).length ≤ 7) → (D.flatMap f).length ≤ 7 * D.length
  | [], _ => by simp
  | a :: D, h => by
    rw [List.flatMap_cons, List.length_append, List.length_cons]
    have := h a (by simp)
    have := flat7 (D := D) fun b hb => h b (by simp [hb])
    omega
theorem IP.refs_le (h : IP Q σ D P) (a : Int) : refs σ.nd D a ≤ 229376 := by
  unfold refs
  have h1 := List.count_le_length (a := a) (l := D.flatMap fun b => kidsO (σ.nd b))
  have h2 := flat7 (f := fun b => kidsO (σ.nd b)) (D := D) fun b hb => by
    unfold Sto.nd
    cases h3 : σ.pg b with
    | none => simp [kidsO]
    | some p => exact (h.ok b p h3).kids7
  have := h.dlen
  omega
theorem refs_perm {M : Int → Option Nd} {D D' : List Int} (h : D.Perm D') (a : Int) : refs M D a = refs M D' a := (h.flatMap_right _).count_eq a
theorem refs_cons {M : Int → Option Nd} (b a : Int) : refs M (b :: D) a = (kidsO (M b)).count a + refs M D a := by
  unfold refs; rw [List.flatMap_cons, List.count_append]
theorem flatMap_eq {f g : Int → List Int} : ∀ {D : List Int}, (∀ b ∈ D, f b = g b) → D.flatMap f = D.flatMap g
  | [], _ => rfl
  | a :: D, h => by
    rw [List.flatMap_cons, List.flatMap_cons, h a (by simp), flatMap_eq fun b hb => h b (by simp [hb])]
theorem refs_congr {M M' : Int → Option Nd} (h : ∀ b ∈ D, M b = M' b) (a : Int) : refs M D a = refs M' D a := by
  unfold refs
  rw [flatMap_eq fun b hb => by rw [h b hb]]
theorem refs_pos {M : Int → Option Nd} (h : 0 < refs M D a) : ∃ b ∈ D, ∃ n, M b = some n ∧ a ∈ kids n := by
  unfold refs at h
  obtain ⟨b, hb, h2⟩ := List.mem_flatMap.1 (List.count_pos_iff.1 h)
  cases h3 : M b with
  | none => rw [h3] at h2; simp [kidsO] at h2
  | some n => rw [h3] at h2; exact ⟨b, hb, n, h3, h2⟩
theorem refs_of {M : Int → Option Nd} {n : Nd} (hb : b ∈ D) (h : M b = some n) (ha : a ∈ kids n) : 0 < refs M D a := by
  unfold refs
  exact List.count_pos_iff.2 (List.mem_flatMap.2 ⟨b, hb, by rw [h]; exact ha⟩)
/-- where something is taken. -/
theorem take_ex {ds : List Dev} (h : (best ds (actives ds)).2 ≠ 0) : ∃ i q, TakeAt ds i q := by
  obtain ⟨b0, _, b2⟩ := best_spec ds (actives ds)
  obtain ⟨hm, hf⟩ := b2 (by omega)
  obtain ⟨hi, hs⟩ := actives_lt hm
  have hfr : freeAt ds (best ds (actives ds)).1 = ds[(best ds (actives ds)).1].free := by unfold freeAt; rw [List.getElem?_eq_getElem hi]
  obtain ⟨x, h2, hx, ht, hg⟩ := free_some (n := ds[(best ds (actives ds)).1].size) (f := ds[(best ds (actives ds)).1].tk) (g := ds[(best ds (actives ds)).1].gv) (by
    unfold Dev.free Dev.used at hfr; omega)
  have : ∃ q, FirstAt ds[(best ds (actives ds)).1].size (fun x => !ds[(best ds (actives ds)).1].tk x && !ds[(best ds (actives ds)).1].gv x) 2 (some q) := by
    generalize hp : (fun x => !ds[(best ds (actives ds)).1].tk x && !ds[(best ds (actives ds)).1].gv x) = pr
    have hpx : pr x = true := by rw [← hp]; simp [ht, hg]
    clear hp ht hg
    induction x using Nat.strongRecOn with
    | _ x ih =>
      by_cases hex : ∃ y, 2 ≤ y ∧ y < x ∧ pr y = true
      · obtain ⟨y, h3, h4, h5⟩ := hex
        exact ih y h4 h3 (by omega) h5
      · refine ⟨x, h2, hx, hpx, fun y h3 h4 => ?_⟩
        cases h5 : pr y with
        | false => rfl
        | true => exact absurd ⟨y, h3, h4, h5⟩ hex
  obtain ⟨q, hq⟩ := this
  exact ⟨_, q, rfl, by omega, _, List.getElem?_eq_getElem hi, hs, hq⟩
theorem IP.holds_le (h : IP Q σ D []) (hp : σ.pg a = some p) : 0 ≤ p.holds ∧ p.holds ≤ 2000000 := by
  have h1 := h.cnt a p hp
  have h2 := h.held a p hp
  have h3 := h.refs_le a
  simp at h1
  omega
/-- one page more. -/
theorem IP.putR {n : Nd} (h : IP Q σ D []) (hn : CanPut σ n) (hd : σ.done < 1000000000) :
    PutR σ n σ none ∨ ∃ σ' a, PutR σ n σ' (some a) ∧ IP Q σ' (a :: D) [] ∧ a ∉ D ∧ 2 ≤ a ∧ a < 32768 ∧ σ'.nd = (fun b => if b = a then some n else σ.nd b) ∧
      (∀ b p, σ.pg b = some p → ∃ p', σ'.pg b = some p' ∧ p'.n = p.n ∧ p'.held = p.held ∧ p.holds ≤ p'.holds) ∧ (∀ p, σ'.pg a = some p → p.held = 0 ∧ p.holds = 0) ∧ σ'.done = σ.done + 1 ∧ σ'.was = σ.was := by
  by_cases hb : (best σ.ds (actives σ.ds)).2 = 0
  · exact .inl (.full hb)
  · obtain ⟨i, q, ht⟩ := take_ex hb
    obtain ⟨hi8, hq2, hq4, hnp, hroom⟩ := Q.take h.room ht
    generalize ha : ((i * 4096 + q : Nat) : Int) = a at hnp hroom
    have hnone : σ.pg a = none := by
      unfold Sto.is at hnp
      cases h1 : σ.pg a with
      | none => rfl
      | some p => rw [h1] at hnp; cases hnp
    have hnot : a ∉ D := fun hm => (h.mem a).1 hm hnone
    refine .inr ⟨σ.put n i q, a, ha ▸ .ok ht hd fun k _ p hp => ?_, ?_⟩
    · have := h.holds_le hp; omega
    have hpg : ∀ b, (σ.put n i q).pg b = (if b = a then some (⟨n, 0, 0⟩ : Pg) else σ.pg b).map fun p => { p with holds := p.holds + 1 * ((kids n).count b : Int) } := by
      intro b
      unfold Sto.put
      rw [adds_pg, ha]
      rfl
    have hka : (kids n).count a = 0 := by
      rw [List.count_eq_zero]
      intro hk
      obtain ⟨q, hq, _⟩ := hn.2 a hk
      rw [hnone] at hq; cases hq
    have hpa : (σ.put n i q).pg a = some ⟨n, 0, 0⟩ := by
      rw [hpg, if_pos rfl, hka]; rfl
    have hnd : (σ.put n i q).nd = (fun b => if b = a then some n else σ.nd b) := by
      funext b
      unfold Sto.nd
      rw [hpg]
      split
      · rfl
      · cases σ.pg b <;> rfl
    have hold : ∀ b p, σ.pg b = some p → (σ.put n i q).pg b = some { p with holds := p.holds + ((kids n).count b : Int) } := by
      intro b p hp
      have : b ≠ a := fun e => by rw [e, hnone] at hp; cases hp
      rw [hpg, if_neg this, hp]; simp
    have hback : ∀ b p, (σ.put n i q).pg b = some p → (b = a ∧ p = ⟨n, 0, 0⟩) ∨ ∃ p0, σ.pg b = some p0 ∧ b ≠ a ∧ p = { p0 with holds := p0.holds + ((kids n).count b : Int) } := by
      intro b p hp
      by_cases e : b = a
      · subst e; rw [hpa] at hp; cases hp; exact .inl ⟨rfl, rfl⟩
      · rw [hpg, if_neg e] at hp
        cases h1 : σ.pg b with
        | none => rw [h1] at hp; cases hp
        | some p0 => rw [h1] at hp; refine .inr ⟨p0, rfl, e, ?_⟩; simp at hp; exact hp.symm
    have hrest := adds_rest 1 (kids n) { σ.set ((i * 4096 + q : Nat) : Int) (some ⟨n, 0, 0⟩) with ds := takeAt σ.ds i q, bk := writeAt σ.bk i q (nodeBytes n), done := σ.done + 1 }
    have hrefs : ∀ b, refs (σ.put n i q).nd (a :: D) b = (kids n).count b + refs σ.nd D b := by
      intro b
      rw [refs_cons, hnd]
      simp only [if_true, kidsO]
      congr 1
      exact refs_congr (fun c hc => if_neg fun e => hnot (by rw [← e]; exact hc)) b
    refine ⟨⟨List.nodup_cons.2 ⟨hnot, h.nodup⟩, fun b => ?_, fun b p hp => ?_, fun b p hp k hk => ?_, fun b p hp => ?_, fun b p hp => ?_, by simp, ?_⟩, hnot, by omega, by omega, hnd, fun b p hp => ⟨_, hold b p hp, rfl, rfl, by simp only; omega⟩, fun p hp => by rw [hpa] at hp; cases hp; exact ⟨rfl, rfl⟩, hrest.2.2.2, hrest.2.1⟩
    · rw [List.mem_cons, h.mem, hpg]
      by_cases e : b = a
      · simp [e]
      · simp [e]
    · rcases hback b p hp with ⟨rfl, rfl⟩ | ⟨p0, h1, _, rfl⟩
      · exact hn.1
      · exact h.ok b p0 h1
    · have : ∃ q0, σ.pg k = some q0 ∧ q0.n.lv + 1 = p.n.lv := by
        rcases hback b p hp with ⟨rfl, rfl⟩ | ⟨p0, h1, _, rfl⟩
        · exact hn.2 k hk
        · exact h.kid b p0 h1 k hk
      obtain ⟨q0, h1, h2⟩ := this
      exact ⟨_, hold k q0 h1, h2⟩
    · rw [hrefs]
      rcases hback b p hp with ⟨rfl, rfl⟩ | ⟨p0, h1, _, rfl⟩
      · rw [hka]
        have : refs σ.nd D b = 0 := by
          apply Classical.byContradiction
          intro hne
          obtain ⟨c, _, n', h1, h2⟩ := refs_pos (Nat.pos_of_ne_zero hne)
          unfold Sto.nd at h1
          cases h3 : σ.pg c with
          | none => rw [h3] at h1; cases h1
          | some pc =>
            rw [h3] at h1; cases h1
            obtain ⟨q0, h4, _⟩ := h.kid c pc h3 b h2
            rw [hnone] at h4; cases h4
        rw [this]; rfl
      · have := h.cnt b p0 h1
        simp at this ⊢
        omega
    · rcases hback b p hp with ⟨rfl, rfl⟩ | ⟨p0, h1, _, rfl⟩
      · simp
      · exact h.held b p0 h1
    · have his : (σ.put n i q).is = (fun b => if b = a then true else σ.is b) := by
        funext b
        unfold Sto.is
        rw [hpg]
        split <;> simp
      rw [his]
      have : (σ.put n i q).ds = takeAt σ.ds i q := hrest.1
      rw [this, show (σ.put n i q).was = σ.was from hrest.2.1]
      exact hroom
end
end Go.Proofs.YtemenmmekddjaaaGreatDoor
end
section
namespace Go.Proofs.YtemenmmekddjaaaGreatDoor
/-- pages went; those that stay are as they were. -/
structure Less (σ σ' : Sto) : Prop where
  same : ∀ a p', σ'.pg a = some p' → ∃ p, σ.pg a = some p ∧ p'.n = p.n ∧ p'.held = p.held ∧ (p'.holds = 0 → p.holds = 0) ∧ 0 ≤ p'.holds ∧ p'.holds ≤ p.holds
  gone : ∀ a p, σ.pg a = some p → σ'.pg a = none → p.held = 0 ∧ p.holds ≠ 0
  was : σ'.was = σ.was
  bk : σ'.bk = σ.bk
  done : σ'.done = σ.done
section
variable {Q : RoomI} {σ σ1 σ' : Sto} {D P F : List Int} {a b : Int} {p : Pg}
theorem Less.trans (h : Less σ σ1) (h' : Less σ1 σ') : Less σ σ' where
  same a p' hp := by
    obtain ⟨p1, h1, h2, h3, h4, h5, h6⟩ := h'.same a p' hp
    obtain ⟨p, g1, g2, g3, g4, g5, g6⟩ := h.same a p1 h1
    exact ⟨p, g1, h2.trans g2, h3.trans g3, fun h => g4 (h4 h), h5, by omega⟩
  gone a p hp hn := by
    cases h1 : σ1.pg a with
    | none => exact h.gone a p hp h1
    | some p1 =>
      obtain ⟨h2, h3⟩ := h'.gone a p1 h1 hn
      obtain ⟨p0, g1, g2, g3, g4, g5, g6⟩ := h.same a p1 h1
      rw [hp] at g1; cases g1
      exact ⟨g3 ▸ h2, by omega⟩
  was := h'.was.trans h.was
  bk := h'.bk.trans h.bk
  done := h'.done.trans h.done
theorem IP.nonneg (h : IP Q σ D P) (hp : σ.pg a = some p) : 0 ≤ p.holds := by
  have h1 := h.cnt a p hp
  have h2 := h.held a p hp
  omega
theorem IP.less_refl (h : IP Q σ D P) : Less σ σ where
  same a p hp := ⟨p, hp, rfl, rfl, id, h.nonneg hp, Int.le_refl _⟩
  gone a p hp hn := by rw [hp] at hn; cases hn
  was := rfl
  bk := rfl
  done := rfl
/-- one pending hold is taken off, and the page stays. -/
theorem IP.dec (h : IP Q σ D (a :: P)) : IP Q (σ.add a (-1)) D P := by
  have hback : ∀ b p, (σ.add a (-1)).pg b = some p → ∃ p0, σ.pg b = some p0 ∧ p.n = p0.n ∧ p.held = p0.held ∧ p.holds = p0.holds - (if b = a then 1 else 0) := by
    intro b p hp
    rw [add_pg] at hp
    by_cases e : b = a
    · subst e
      rw [if_pos rfl] at hp
      cases h1 : σ.pg b with
      | none => rw [h1] at hp; cases hp
      | some p0 => rw [h1] at hp; cases hp; exact ⟨p0, rfl, rfl, rfl, by simp; omega⟩
    · rw [if_neg e] at hp
      exact ⟨p, hp, rfl, rfl, by rw [if_neg e]; omega⟩
  refine ⟨h.nodup, fun b => ?_, fun b p hp => ?_, fun b p hp k hk => ?_, fun b p hp => ?_, fun b p hp => ?_, fun b hb => h.pend b (by simp [hb]), ?_⟩
  · rw [h.mem, Ne, Ne, ← nd_none, ← nd_none, add_nd]
  · obtain ⟨p0, h1, h2, _⟩ := hback b p hp
    rw [h2]; exact h.ok b p0 h1
  · obtain ⟨p0, h1, h2, _⟩ := hback b p hp
    rw [h2] at hk ⊢
    obtain ⟨q, h3, h4⟩ := h.kid b p0 h1 k hk
    rw [add_pg]
    split
    · rename_i e; subst e; rw [h3]; exact ⟨_, rfl, h4⟩
    · exact ⟨q, h3, h4⟩
  · obtain ⟨p0, h1, h2, h3, h4⟩ := hback b p hp
    have h5 := h.cnt b p0 h1
    rw [add_nd, h3, h4, h5]
    by_cases e : b = a
    · subst e; simp; omega
    · rw [if_neg e, List.count_cons_of_ne (fun h => e h.symm)]; omega
  · obtain ⟨p0, h1, h2, h3, h4⟩ := hback b p hp
    rw [h3]; exact h.held b p0 h1
  · rw [show (σ.add a (-1)).is = σ.is from is_of_nd (add_nd _)]
    exact h.room
theorem rm_pg {i j : Nat} : (σ.rm a i j).pg b = if b = a then none else σ.pg b := rfl
/-- a page with one hold, that is pending, goes: the holds of what it names are pending then. -/
theorem IP.rm {i j : Nat} (h : IP Q σ D (a :: P)) (hp : σ.pg a = some p) (h1 : p.holds = 1) (hroom : Q.I (fun b => if b = a then false else σ.is b) (giveAt σ.ds σ.was i j) σ.was) : IP Q (σ.rm a i j) (D.erase a) (kids p.n ++ P) := by
  have hc := h.cnt a p hp
  have hh := h.held a p hp
  rw [h1, List.count_cons_self] at hc
  have hr0 : refs σ.nd D a = 0 := by omega
  have hP0 : P.count a = 0 := by omega
  have haD : a ∈ D := (h.mem a).2 (by rw [hp]; simp)
  have hperm := List.perm_cons_erase haD
  have hnot : a ∉ D.erase a := h.nodup.not_mem_erase
  have hrefs : ∀ b, refs σ.nd D b = (kids p.n).count b + refs (σ.rm a i j).nd (D.erase a) b := by
    intro b
    rw [refs_perm hperm, refs_cons]
    have : σ.nd a = some p.n := by unfold Sto.nd; rw [hp]; rfl
    rw [this]
    congr 1
    refine refs_congr (fun c hc => ?_) b
    have hne : c ≠ a := fun e => hnot (e ▸ hc)
    unfold Sto.nd
    rw [rm_pg, if_neg hne]
  have hback : ∀ b q, (σ.rm a i j).pg b = some q → b ≠ a ∧ σ.pg b = some q := by
    intro b q hq
    rw [rm_pg] at hq
    split at hq
    · cases hq
    · rename_i e; exact ⟨e, hq⟩
  have hnk : ∀ b q, σ.pg b = some q → a ∉ kids q.n := by
    intro b q hq hk
    have hb : b ∈ D := (h.mem b).2 (by rw [hq]; simp)
    have := refs_of (M := σ.nd) (n := q.n) hb (by unfold Sto.nd; rw [hq]; rfl) hk
    omega
  refine ⟨h.nodup.erase _, fun b => ?_, fun b q hq => ?_, fun b q hq k hk => ?_, fun b q hq => ?_, fun b q hq => ?_, fun b hb => ?_, ?_⟩
  · rw [h.nodup.mem_erase_iff, h.mem, rm_pg]
    by_cases e : b = a
    · simp [e]
    · simp [e]
  · exact h.ok b q (hback b q hq).2
  · obtain ⟨_, hq⟩ := hback b q hq
    obtain ⟨q', h2, h3⟩ := h.kid b q hq k hk
    have hne : k ≠ a := fun e => hnk b q hq (e ▸ hk)
    exact ⟨q', by rw [rm_pg, if_neg hne]; exact h2, h3⟩
  · obtain ⟨hne, hq⟩ := hback b q hq
    have h2 := h.cnt b q hq
    rw [hrefs b, List.count_cons_of_ne (fun h => hne h.symm)] at h2
    rw [List.count_append, h2]
    omega
  · exact h.held b q (hback b q hq).2
  · rw [h.nodup.mem_erase_iff]
    rcases List.mem_append.1 hb with hb | hb
    · obtain ⟨q', h2, _⟩ := h.kid a p hp b hb
      exact ⟨fun e => hnk a p hp (e ▸ hb), (h.mem b).2 (by rw [h2]; simp)⟩
    · refine ⟨fun e => ?_, h.pend b (by simp [hb])⟩
      subst e
      exact absurd (List.count_pos_iff.2 hb) (by omega)
  · have : (σ.rm a i j).is = fun b => if b = a then false else σ.is b := by
      funext b
      unfold Sto.is
      rw [rm_pg]
      split <;> rfl
    rw [this]; exact hroom
theorem is_true (hp : σ.pg a = some p) : σ.is a = true := by unfold Sto.is; rw [hp]; rfl
/-- pending holds can be taken off. -/
theorem IP.gone : ∀ (N : Nat) (P : List Int) {σ : Sto} {D F : List Int}, D.length ≤ N → IP Q σ D (P ++ F) → ∃ σ' D', GoneR σ P σ' ∧ IP Q σ' D' F ∧ Less σ σ' ∧ D'.length ≤ D.length := by
  intro N
  induction N with
  | zero =>
    intro P σ D F hN h
    have hD : D = [] := by simpa using hN
    cases P with
    | nil => exact ⟨σ, D, .nil, h, h.less_refl, Nat.le_refl _⟩
    | cons a P => have := h.pend a (by simp); rw [hD] at this; simp at this
  | succ N ihN =>
    intro P
    induction P with
    | nil => intro σ D F hN h; exact ⟨σ, D, .nil, h, h.less_refl, Nat.le_refl _⟩
    | cons a P ih =>
      intro σ D F hN h
      have haD := h.pend a (by simp)
      cases hp : σ.pg a with
      | none => exact absurd hp ((h.mem a).1 haD)
      | some p =>
      have hc := h.cnt a p hp
      have hh := h.held a p hp
      have hr := h.refs_le a
      rw [List.cons_append, List.count_cons_self] at hc
      by_cases h1 : p.holds = 1
      · obtain ⟨i, j, hT, hroom⟩ := Q.give h.room (is_true hp)
        have h2 := IP.rm (i := i) (j := j) h hp h1 hroom
        have hlen : (D.erase a).length ≤ N := by
          rw [List.length_erase_of_mem haD]; omega
        obtain ⟨σ1, D1, g1, g2, g3, g4⟩ := ihN (kids p.n) (F := P ++ F) hlen h2
        obtain ⟨σ', D', k1, k2, k3, k4⟩ := ihN P (F := F) (by omega) g2
        refine ⟨σ', D', .go hp h1 hT g1 k1, k2, ?_, by rw [List.length_erase_of_mem haD] at g4; omega⟩
        refine Less.trans (σ1 := σ.rm a i j) ⟨fun b q hq => ?_, fun b q hq hn => ?_, rfl, rfl, rfl⟩ (g3.trans k3)
        · rw [rm_pg] at hq
          split at hq
          · cases hq
          · exact ⟨q, hq, rfl, rfl, id, h.nonneg hq, Int.le_refl _⟩
        · rw [rm_pg] at hn
          split at hn
          · rename_i e; subst e; rw [hp] at hq; cases hq; exact ⟨by omega, by omega⟩
          · rw [hq] at hn; cases hn
      · have h2 : IP Q (σ.add a (-1)) D (P ++ F) := IP.dec h
        obtain ⟨σ', D', g1, g2, g3, g4⟩ := ih hN h2
        refine ⟨σ', D', ?_, g2, ?_, g4⟩
        · exact .keep hp (by omega) g1
        · refine Less.trans (σ1 := σ.add a (-1)) ⟨fun b q hq => ?_, fun b q hq hn => ?_, rfl, rfl, rfl⟩ g3
          · rw [add_pg] at hq
            split at hq
            · rename_i e; subst e
              rw [hp] at hq; cases hq
              exact ⟨p, hp, rfl, rfl, fun h => by simp at h; omega, by simp; omega, by simp; omega⟩
            · exact ⟨q, hq, rfl, rfl, id, h.nonneg hq, Int.le_refl _⟩
          · rw [add_pg] at hn
            split at hn
            · rename_i e; subst e; rw [hp] at hn; cases hn
            · rw [hq] at hn; cases hn
end
end Go.Proofs.YtemenmmekddjaaaGreatDoor
end
section
namespace Go.Proofs.YtemenmmekddjaaaGreatDoor
def setL (key val : Int) (l : List Pr) : List Pr := (l.filter fun e => decide (e.1 < key)) ++ (key, val) :: l.filter fun e => decide (key < e.1)
def delL (key : Int) (l : List Pr) : List Pr := l.filter fun e => decide (e.1 ≠ key)
def cutN (lv : Nat) (l : List Pr) : List Nd := if l = [] then [] else if l.length ≤ 7 then [⟨lv, l⟩] else [⟨lv, l.take 4⟩, ⟨lv, l.drop 4⟩]
/-- the place in a row below which a key lies. -/
def childIx (l : List Pr) (key : Int) : Nat := (l.filter fun e => decide (e.1 ≤ key)).length - 1
/-- a row with others in the place of one. -/
def swapAt (l : List Pr) (i : Nat) (m : List Pr) : List Pr := l.take i ++ m ++ l.drop (i + 1)
def RowOk (l : List Pr) : Prop := Srt l ∧ ∀ e ∈ l, PrOk e
/-- the page that one names alone, and so on. -/
inductive OnlyR (σ : Sto) : Pr → Pr → Prop
  | stop {x : Pr} {p : Pg} (h : σ.pg x.2 = some p) (hs : p.n.lv = 0 ∨ 1 < p.n.l.length) : OnlyR σ x x
  | go {x y z : Pr} {p : Pg} (h : σ.pg x.2 = some p) (h0 : 0 < p.n.lv) (h1 : p.n.l = [y]) (t : OnlyR σ y z) : OnlyR σ x z
inductive DownR (f : List Pr → List Pr) (pre : List Pr → Prop) (key : Int) : Sto → List Int → Int → Bool → Sto → List Int → Option (List Pr) → Prop
  | leaf {σ σ' : Sto} {c c' : List Int} {a : Int} {top : Bool} {p : Pg} {r : Option (List Pr)} (h : σ.pg a = some p) (hok : NdOk p.n) (h0 : p.n.lv = 0) (hp : pre p.n.l) (hl : (f p.n.l).length ≤ 8) (t : WriteR σ c (cutN 0 (f p.n.l)) σ' c' r) : DownR f pre key σ c a top σ' c' r
  | fail {σ σ' : Sto} {c c' : List Int} {a : Int} {top : Bool} {p : Pg} {x : Pr} (h : σ.pg a = some p) (hok : NdOk p.n) (h0 : 0 < p.n.lv) (hx : p.n.l[childIx p.n.l key]? = some x) (t : DownR f pre key σ c x.2 false σ' c' none) : DownR f pre key σ c a top σ' c' none
  | only {σ σ1 : Sto} {c c1 : List Int} {a : Int} {p : Pg} {x y z : Pr} {bl : List Pr} (h : σ.pg a = some p) (hok : NdOk p.n) (h0 : 0 < p.n.lv) (hx : p.n.l[childIx p.n.l key]? = some x) (t : DownR f pre key σ c x.2 false σ1 c1 (some bl)) (hb : bl.length ≤ 2)
      (hr : RowOk (swapAt p.n.l (childIx p.n.l key) bl)) (h1 : swapAt p.n.l (childIx p.n.l key) bl = [y]) (t2 : OnlyR σ1 y z) : DownR f pre key σ c a true σ1 c1 (some [z])
  | node {σ σ1 σ' : Sto} {c c1 c' : List Int} {a : Int} {top : Bool} {p : Pg} {x : Pr} {bl : List Pr} {r : Option (List Pr)} (h : σ.pg a = some p) (hok : NdOk p.n) (h0 : 0 < p.n.lv) (hx : p.n.l[childIx p.n.l key]? = some x) (t : DownR f pre key σ c x.2 false σ1 c1 (some bl)) (hb : bl.length ≤ 2)
      (hr : RowOk (swapAt p.n.l (childIx p.n.l key) bl)) (h1 : top = false ∨ (swapAt p.n.l (childIx p.n.l key) bl).length ≠ 1) (t2 : WriteR σ1 c1 (cutN p.n.lv (swapAt p.n.l (childIx p.n.l key) bl)) σ' c' r) : DownR f pre key σ c a top σ' c' r
/-- one hold more, that comes of no page. -/
inductive HoldR (σ : Sto) (a : Int) : Sto → Prop
  | mk {p : Pg} (h : σ.pg a = some p) (h1 : p.holds ≤ 1099511627776) (h0 : 0 ≤ p.holds) (h2 : 0 ≤ p.held) (h3 : p.held ≤ 1000000) : HoldR σ a ((σ.add a 1).own a 1)
/-- one less. -/
inductive DropR (σ : Sto) (a : Int) : Sto → Prop
  | mk {p : Pg} {σ' : Sto} (h : σ.pg a = some p) (h1 : 0 < p.held) (h2 : p.held ≤ 1099511627776) (t : GoneR (σ.own a (-1)) [a] σ') : DropR σ a σ'
inductive DoneR : Sto → List Int → List Pr → Int → Sto → List Int → Option Int → Prop
  | none {σ σ' : Sto} {c : List Int} {root : Int} (hr : root ≠ 0) (t : DropR σ root σ') : DoneR σ c [] root σ' c (some 0)
  | one {σ σ1 σ' : Sto} {c : List Int} {x : Pr} {root : Int} (hr : root ≠ 0) (t1 : HoldR σ x.2 σ1) (t : DropR σ1 root σ') : DoneR σ c [x] root σ' c (some x.2)
  | fail {σ σ' : Sto} {c c' : List Int} {x y : Pr} {root : Int} {p : Pg} (h : σ.pg x.2 = some p) (hlv : p.n.lv ≤ 20) (t : WriteR σ c [⟨p.n.lv + 1, [x, y]⟩] σ' c' none) : DoneR σ c [x, y] root σ' c' none
  | two {σ σ1 σ' : Sto} {c c1 c' : List Int} {x y z : Pr} {root : Int} {p : Pg} {r : Option Int} (h : σ.pg x.2 = some p) (hlv : p.n.lv ≤ 20) (t : WriteR σ c [⟨p.n.lv + 1, [x, y]⟩] σ1 c1 (some [z])) (t2 : DoneR σ1 c1 [z] root σ' c' r) : DoneR σ c [x, y] root σ' c' r
/-- pages without a hold go. -/
inductive FailR : Sto → List Int → Sto → Prop
  | nil {σ : Sto} : FailR σ [] σ
  | skip {σ σ' : Sto} {a : Int} {c : List Int} {p : Pg} (h : σ.pg a = some p) (h0 : p.holds ≠ 0) (t : FailR σ c σ') : FailR σ (a :: c) σ'
  | miss {σ σ' : Sto} {a : Int} {c : List Int} (h : σ.pg a = none) (t : FailR σ c σ') : FailR σ (a :: c) σ'
  | go {σ σ1 σ' : Sto} {a : Int} {c : List Int} {p : Pg} {i j : Nat} (h : σ.pg a = some p) (h0 : p.holds = 0) (hT : Taken σ.ds a i j) (t1 : GoneR (σ.rm a i j) (kids p.n) σ1) (t : FailR σ1 c σ') : FailR σ (a :: c) σ'
inductive RunR (f : List Pr → List Pr) (pre : List Pr → Prop) (key : Int) : Sto → Int → Sto → Option Int → Prop
  | fail {σ σ1 σ' : Sto} {c : List Int} {root : Int} (t : DownR f pre key σ [] root true σ1 c none) (hcl : c.length < 40000) (t2 : FailR σ1 c.reverse σ') : RunR f pre key σ root σ' none
  | go {σ σ1 σ2 σ' : Sto} {c c2 : List Int} {root : Int} {l : List Pr} {r : Option Int} (t : DownR f pre key σ [] root true σ1 c (some l)) (hcl : c.length < 40000) (hl : l.length ≤ 2) (hrow : l.length = 2 → RowOk l) (t1 : DoneR σ1 c l root σ2 c2 r) (t2 : FailR σ2 c2.reverse σ') : RunR f pre key σ root σ' r
end Go.Proofs.YtemenmmekddjaaaGreatDoor
end
section
namespace Go.Proofs.YtemenmmekddjaaaGreatDoor
/-- pages were put: new. -/
structure Ext (σ σ' : Sto) (new : List Int) : Prop where
  old : ∀ b p, σ.pg b = some p → ∃ p', σ'.pg b = some p' ∧ p'.n = p.n ∧ p'.held = p.held ∧ p.holds ≤ p'.holds
  fresh : ∀ b p', σ'.pg b = some p' → σ.pg b = none → b ∈ new ∧ p'.held = 0
  done : σ'.done = σ.done + new.length
  was : σ'.was = σ.was
section
variable {Q : RoomI} {σ σ1 σ' : Sto} {D P F : List Int} {a b : Int} {p : Pg}
theorem Ext.refl : Ext σ σ [] where
  old b p hp := ⟨p, hp, rfl, rfl, Int.le_refl _⟩
  fresh b p' hp hn := by rw [hp] at hn; cases hn
  done := rfl
  was := rfl
theorem Ext.trans {A B : List Int} (h : Ext σ σ1 A) (h' : Ext σ1 σ' B) : Ext σ σ' (A ++ B) where
  old b p hp := by
    obtain ⟨p1, h1, h2, h3, h4⟩ := h.old b p hp
    obtain ⟨p2, g1, g2, g3, g4⟩ := h'.old b p1 h1
    exact ⟨p2, g1, g2.trans h2, g3.trans h3, by omega⟩
  fresh b p' hp hn := by
    cases h1 : σ1.pg b with
    | none =>
      obtain ⟨h2, h3⟩ := h'.fresh b p' hp h1
      exact ⟨List.mem_append_right _ h2, h3⟩
    | some p1 =>
      obtain ⟨h2, h3⟩ := h.fresh b p1 h1 hn
      obtain ⟨p2, g1, g2, g3, g4⟩ := h'.old b p1 h1
      rw [hp] at g1; cases g1
      exact ⟨List.mem_append_left _ h2, g3.trans h3⟩
  done := by rw [h'.done, h.done, List.length_append]; omega
  was := h'.was.trans h.was
theorem Ext.nd {A : List Int} (h : Ext σ σ' A) {x : Nd} (hx : σ.nd b = some x) : σ'.nd b = some x := by
  unfold Sto.nd at *
  cases h1 : σ.pg b with
  | none => rw [h1] at hx; cases hx
  | some p =>
    rw [h1] at hx; cases hx
    obtain ⟨p', g1, g2, _⟩ := h.old b p h1
    rw [g1, ← g2]; rfl
theorem pg_of_nd {x : Nd} (h : σ.nd a = some x) : ∃ p, σ.pg a = some p ∧ p.n = x := by
  unfold Sto.nd at h
  cases h1 : σ.pg a with
  | none => rw [h1] at h; cases h
  | some p => rw [h1] at h; cases h; exact ⟨p, rfl, rfl⟩
theorem nd_of_pg (h : σ.pg a = some p) : σ.nd a = some p.n := by unfold Sto.nd; rw [h]; rfl
theorem CanPut.more {n : Nd} {A : List Int} (h : CanPut σ n) (he : Ext σ σ' A) : CanPut σ' n := ⟨h.1, fun k hk => by
  obtain ⟨q, h1, h2⟩ := h.2 k hk
  obtain ⟨q', g1, g2, _⟩ := he.old k q h1
  exact ⟨q', g1, by rw [g2]; exact h2⟩⟩
/-- nodes that may be put are put, or there is no room. -/
theorem IP.writeR : ∀ (ns : List Nd) {σ : Sto} {D : List Int} (c : List Int), IP Q σ D [] → (∀ n ∈ ns, CanPut σ n) → σ.done + ns.length < 1000000000 →
    ∃ σ' D' new r, WriteR σ c ns σ' (c ++ new) r ∧ IP Q σ' D' [] ∧ Ext σ σ' new ∧ new.length ≤ ns.length ∧
      (∀ l, r = some l → l.length = ns.length ∧ ∀ i (h : i < l.length) (h2 : i < ns.length), l[i].1 = key0 ns[i] ∧ σ'.nd l[i].2 = some ns[i] ∧ 2 ≤ l[i].2 ∧ l[i].2 < 32768)
  | [], σ, D, c, h, _, _ => ⟨σ, D, [], some [], by simpa using WriteR.nil, h, .refl, by simp, fun l hl => by cases hl; exact ⟨rfl, fun i h => by simp at h⟩⟩
  | n :: ns, σ, D, c, h, hn, hd => by
    rcases h.putR (hn n (by simp)) (by simp at hd; omega) with h1 | ⟨σ1, a, h1, h2, h3, h4, h5, h6, h7, h8, h9, h10⟩
    · exact ⟨σ, D, [], none, by simpa using WriteR.full (hn n (by simp)) h1, h, .refl, by simp, fun l hl => by cases hl⟩
    · have he : Ext σ σ1 [a] := by
        refine ⟨h7, fun b p' hp hb => ?_, h9, h10⟩
        have hab : b = a := by
          apply Classical.byContradiction
          intro hne
          have := congrFun h6 b
          simp only [if_neg hne] at this
          rw [nd_of_pg hp] at this
          obtain ⟨p0, g1, _⟩ := pg_of_nd this.symm
          rw [hb] at g1; cases g1
        subst hab
        exact ⟨by simp, (h8 p' hp).1⟩
      obtain ⟨σ', D', new, r, k1, k2, k3, k4, k5⟩ := IP.writeR ns (c ++ [a]) h2 (fun m hm => (hn m (by simp [hm])).more he) (by rw [h9]; simp at hd; omega)
      refine ⟨σ', D', a :: new, _, by simpa using WriteR.cons (hn n (by simp)) h1 k1, k2, by simpa using he.trans k3, by simp; omega, fun l hl => ?_⟩
      cases r with
      | none => simp at hl
      | some l' =>
        simp only [Option.map_some, Option.some.injEq] at hl
        subst hl
        obtain ⟨g1, g2⟩ := k5 l' rfl
        refine ⟨by simp [g1], fun i hi1 hi2 => ?_⟩
        cases i with
        | zero => exact ⟨rfl, k3.nd (by rw [h6]; simp), h4, h5⟩
        | succ i => exact g2 i (by simpa using hi1) (by simpa using hi2)
theorem Srt.sub {l m : List Pr} (h : Srt l) (hs : m.Sublist l) : Srt m := h.sublist hs
/-- a row cut into nodes, as trees. -/
theorem cutN_len (lv : Nat) (l : List Pr) : (cutN lv l).length ≤ 2 := by
  unfold cutN; split
  · simp
  · split <;> simp
theorem IP.lv20 (h : IP Q σ D P) (hp : σ.pg a = some p) : p.n.lv ≤ 20 := (h.ok a p hp).1
theorem IP.nd_ok (h : IP Q σ D P) : ∀ b x, σ.nd b = some x → NdOk x := fun b x hx => by
  obtain ⟨p, h1, rfl⟩ := pg_of_nd hx
  exact h.ok b p h1
/-- what a row of a page of level lv may be. -/
structure RowT (σ : Sto) (lv : Nat) (R : List Pr → List Pr → Nat → Prop) : Prop where
  split : ∀ m1 m2 L u, R (m1 ++ m2) L u → ∃ L1 L2 u1 u2, L = L1 ++ L2 ∧ u = u1 + u2 ∧ R m1 L1 u1 ∧ R m2 L2 u2
  hd : ∀ m L u, R m L u → hd? L = hd? m
  nil : ∀ L u, R [] L u → L = [] ∧ u = 0
  tree : ∀ σ' new, Ext σ σ' new → ∀ m L u a, R m L u → σ'.nd a = some ⟨lv, m⟩ → T σ'.nd lv a L m.length u
  kid : ∀ m L u, R m L u → ∀ k ∈ kids ⟨lv, m⟩, ∃ q, σ.pg k = some q ∧ q.n.lv + 1 = lv
theorem RowT.up {n : Nat} : RowT σ (n + 1) (Ts (T σ.nd n) n) where
  split m1 m2 L u h := h.split
  hd m L u h := h.hd
  nil L u h := by cases h; exact ⟨rfl, rfl⟩
  tree σ' new he m L u a h ha := ⟨m, ha, rfl, h.mono fun e _ L s c ht => ht.more fun b x => he.nd⟩
  kid m L u ht k hk := by
    unfold kids at hk
    rw [if_neg (by simp)] at hk
    obtain ⟨e, he, rfl⟩ := List.mem_map.1 hk
    obtain ⟨L1, s, c', h1, _, _, _⟩ := ht.mem he
    obtain ⟨l', h2, _⟩ := h1.at
    obtain ⟨q, h3, h4⟩ := pg_of_nd h2
    exact ⟨q, h3, by rw [h4]⟩
theorem RowT.leaf : RowT σ 0 (fun l L u => L = l ∧ u = 0) where
  split m1 m2 L u h := ⟨m1, m2, 0, 0, h.1, h.2, ⟨rfl, rfl⟩, ⟨rfl, rfl⟩⟩
  hd m L u h := by rw [h.1]
  nil L u h := h
  tree σ' new he m L u a h ha := by obtain ⟨rfl, rfl⟩ := h; exact ⟨ha, rfl, rfl⟩
  kid m L u ht k hk := by unfold kids at hk; rw [if_pos rfl] at hk; simp at hk
/-- a row is put as pages. -/
theorem IP.cut {lv : Nat} {R : List Pr → List Pr → Nat → Prop} {l L : List Pr} {u : Nat} (c : List Int) (h : IP Q σ D []) (hR : RowT σ lv R) (ht : R l L u) (hr : RowOk l) (hlv : lv ≤ 20) (hl8 : l.length ≤ 8) (hd : σ.done + 2 < 1000000000) :
    ∃ σ' D' new r, WriteR σ c (cutN lv l) σ' (c ++ new) r ∧ IP Q σ' D' [] ∧ Ext σ σ' new ∧ new.length ≤ 2 ∧
      (∀ bl, r = some bl → ∃ u', Ts (T σ'.nd lv) lv bl L u' ∧ bl.length ≤ 2 ∧ (∀ e ∈ bl, 2 ≤ e.2 ∧ e.2 < 32768) ∧ (l = [] → bl = [] ∧ u' = 0) ∧
        (l ≠ [] → l.length ≤ 7 → bl.length = 1 ∧ u' = (l.length - 4) * 4 ^ lv + u ∧ ∀ x, bl = [x] → T σ'.nd lv x.2 L l.length u) ∧ (l.length = 8 → bl.length = 2 ∧ u' = u)) := by
  have hcan : ∀ m : List Pr, m.Sublist l → (∃ L u, R m L u) → 1 ≤ m.length → m.length ≤ 7 → CanPut σ ⟨lv, m⟩ := fun m hm ⟨L, u, hL⟩ h1 h7 =>
    ⟨⟨hlv, h1, h7, hr.1.sub hm, fun e he => hr.2 e (hm.subset he)⟩, hR.kid m L u hL⟩
  by_cases hnil : l = []
  · subst hnil
    obtain ⟨rfl, rfl⟩ := hR.nil _ _ ht
    refine ⟨σ, D, [], some [], by simpa [cutN] using WriteR.nil, h, .refl, by simp, fun bl hbl => ?_⟩
    cases hbl
    exact ⟨0, .nil, by simp, by simp, fun _ => ⟨rfl, rfl⟩, fun h => absurd rfl h, by simp⟩
  have hpos : 1 ≤ l.length := by
    cases l with
    | nil => exact absurd rfl hnil
    | cons _ _ => simp
  have hhd : ∀ m : List Pr, 0 < m.length → hd? m = some (key0 ⟨lv, m⟩) := fun m hm => by
    cases m with
    | nil => simp at hm
    | cons y l => rfl
  by_cases h7 : l.length ≤ 7
  · obtain ⟨σ', D', new, r, k1, k2, k3, k4, k5⟩ := IP.writeR [⟨lv, l⟩] c h (fun m hm => by simp at hm; subst hm; exact hcan l (List.Sublist.refl _) ⟨_, _, ht⟩ hpos h7) (by simp; omega)
    refine ⟨σ', D', new, r, by rw [show cutN lv l = [⟨lv, l⟩] by unfold cutN; rw [if_neg hnil, if_pos h7]]; exact k1, k2, k3, by simp at k4; omega, fun bl hbl => ?_⟩
    obtain ⟨g1, g2⟩ := k5 bl hbl
    match bl, g1, g2 with
    | [x], g1, g2 =>
      obtain ⟨g3, g4, g5, g6⟩ := g2 0 (by simp) (by simp)
      simp only [List.getElem_cons_zero] at g3 g4 g5 g6
      have hT := hR.tree σ' new k3 l L u x.2 ht g4
      have hk : hd? L = some x.1 := by rw [hR.hd _ _ _ ht, g3]; exact hhd _ (by omega)
      have := Ts.one (P := T σ'.nd lv) (n := lv) (k := x.1) (v := x.2) hT hk
      exact ⟨_, this, by simp, by simpa using ⟨g5, g6⟩, fun h => absurd h hnil, fun _ _ => ⟨rfl, rfl, fun y hy => by cases hy; exact hT⟩, fun h => by omega⟩
  · have h8 : l.length = 8 := by omega
    have hsp : l = l.take 4 ++ l.drop 4 := (List.take_append_drop 4 l).symm
    have ht' := ht
    rw [hsp] at ht'
    obtain ⟨L1, L2, u1, u2, rfl, rfl, t1, t2⟩ := hR.split _ _ _ _ ht'
    obtain ⟨σ', D', new, r, k1, k2, k3, k4, k5⟩ := IP.writeR [⟨lv, l.take 4⟩, ⟨lv, l.drop 4⟩] c h (fun m hm => by
      simp at hm
      rcases hm with rfl | rfl
      · exact hcan _ (List.take_sublist _ _) ⟨_, _, t1⟩ (by simp; omega) (by simp; omega)
      · exact hcan _ (List.drop_sublist _ _) ⟨_, _, t2⟩ (by simp; omega) (by simp; omega)) (by simp; omega)
    refine ⟨σ', D', new, r, by rw [show cutN lv l = [⟨lv, l.take 4⟩, ⟨lv, l.drop 4⟩] by unfold cutN; rw [if_neg hnil, if_neg h7]]; exact k1, k2, k3, by simp at k4; omega, fun bl hbl => ?_⟩
    obtain ⟨g1, g2⟩ := k5 bl hbl
    match bl, g1, g2 with
    | [x, y], g1, g2 =>
      obtain ⟨g3, g4, g5, g6⟩ := g2 0 (by simp) (by simp)
      obtain ⟨g3', g4', g5', g6'⟩ := g2 1 (by simp) (by simp)
      simp only [List.getElem_cons_zero, List.getElem_cons_succ] at g3 g4 g3' g4' g5 g6 g5' g6'
      have hT1 := hR.tree σ' new k3 _ _ _ x.2 t1 g4
      have hT2 := hR.tree σ' new k3 _ _ _ y.2 t2 g4'
      have hk1 : hd? L1 = some x.1 := by rw [hR.hd _ _ _ t1, g3]; exact hhd _ (by simp; omega)
      have hk2 : hd? L2 = some y.1 := by rw [hR.hd _ _ _ t2, g3']; exact hhd _ (by simp; omega)
      have h1 := Ts.one (P := T σ'.nd lv) (n := lv) (k := x.1) (v := x.2) hT1 hk1
      have h2 := Ts.one (P := T σ'.nd lv) (n := lv) (k := y.1) (v := y.2) hT2 hk2
      have e1 : (l.take 4).length - 4 = 0 := by simp; omega
      have e2 : (l.drop 4).length - 4 = 0 := by simp; omega
      rw [e1] at h1
      rw [e2] at h2
      have := h1.append h2
      refine ⟨_, this, by simp, by simpa using ⟨⟨g5, g6⟩, ⟨g5', g6'⟩⟩, fun h => absurd h hnil, fun _ h => by omega, fun _ => ⟨rfl, by omega⟩⟩
end
end Go.Proofs.YtemenmmekddjaaaGreatDoor
end
section
namespace Go.Proofs.YtemenmmekddjaaaGreatDoor
/-- a change of the items that looks only at those next to a key. -/
structure LeafF (f : List Pr → List Pr) (pre : List Pr → Prop) (key : Int) (δ : Nat) : Prop where
  loc : ∀ A l B, Srt (A ++ l ++ B) → (∀ e ∈ A, e.1 < key) → (∀ e ∈ B, key < e.1) → f (A ++ l ++ B) = A ++ f l ++ B
  srt : ∀ l, Srt l → Srt (f l)
  ok : ∀ l, (∀ e ∈ l, PrOk e) → ∀ e ∈ f l, PrOk e
  len : ∀ l, Srt l → (f l).length ≤ l.length + δ
  pre : ∀ A l B, Srt (A ++ l ++ B) → (∀ e ∈ A, e.1 < key) → (∀ e ∈ B, key < e.1) → pre (A ++ l ++ B) → pre l
  one : δ ≤ 1
theorem Srt.tail {e : Pr} {l : List Pr} (h : Srt (e :: l)) : Srt l := (List.pairwise_cons.1 h).2
theorem Srt.gt {e x : Pr} {l : List Pr} (h : Srt (e :: l)) (hx : x ∈ l) : e.1 < x.1 := (List.pairwise_cons.1 h).1 x hx
theorem child_cmp : ∀ {l : List Pr} (_ : Srt l) (key : Int) (j : Nat) (hj : j < l.length), l[j].1 ≤ key ↔ j < (l.filter fun e => decide (e.1 ≤ key)).length
  | e :: l, hs, key, j, hj => by
    by_cases he : e.1 ≤ key
    · rw [List.filter_cons_of_pos (by simpa using he)]
      cases j with
      | zero => simp [he]
      | succ j =>
        have := child_cmp hs.tail key j (by simpa using hj)
        simp only [List.getElem_cons_succ, List.length_cons]
        omega
    · rw [List.filter_cons_of_neg (by simpa using he)]
      have hnil : (l.filter fun e => decide (e.1 ≤ key)) = [] := by
        rw [List.filter_eq_nil_iff]
        intro x hx
        have := hs.gt hx
        simp; omega
      rw [hnil]
      cases j with
      | zero => simp; omega
      | succ j =>
        have := hs.gt (List.getElem_mem (l := l) (n := j) (by simpa using hj))
        simp; omega
theorem childIx_lt {l : List Pr} (h : l ≠ []) (key : Int) : childIx l key < l.length := by
  unfold childIx
  have := List.length_filter_le (fun e : Pr => decide (e.1 ≤ key)) l
  have : 0 < l.length := List.length_pos_iff.2 h
  omega
theorem hd_eq {L : List Pr} {k : Int} (h : hd? L = some k) : ∃ e L', L = e :: L' ∧ e.1 = k := by
  cases L with
  | nil => simp [hd?] at h
  | cons e L' => simp [hd?] at h; exact ⟨e, L', rfl, h⟩
section
variable {P : Int → List Pr → Nat → Nat → Prop} {n : Nat}
/-- the part of the items that lies below the place of a key. -/
theorem Ts.child {l L : List Pr} {u : Nat} (ht : Ts P n l L u) (hs : Srt L) (hl : l ≠ []) (key : Int) :
    ∃ x LA Li LB uA uB s c, l[childIx l key]? = some x ∧ P x.2 Li s c ∧ hd? Li = some x.1 ∧ L = LA ++ Li ++ LB ∧ u = uA + ((s - 4) * 4 ^ n + c) + uB ∧ Ts P n (l.take (childIx l key)) LA uA ∧ Ts P n (l.drop (childIx l key + 1)) LB uB ∧
      (∀ e ∈ LA, e.1 < key) ∧ (∀ e ∈ LB, key < e.1) := by
  have hi := childIx_lt hl key
  have hsl := ht.srt hs
  have hsp : l = l.take (childIx l key) ++ (l[childIx l key] :: l.drop (childIx l key + 1)) := by
    rw [List.getElem_cons_drop, List.take_append_drop]
  generalize hx : l[childIx l key] = x at hsp
  have ht2 := ht
  rw [hsp] at ht2
  obtain ⟨LA, L2, uA, u2, rfl, rfl, t1, t2⟩ := ht2.split
  obtain ⟨Li, LB, s, c, uB, t3, t4, t5, rfl, rfl⟩ := Ts.uncons (k := x.1) (v := x.2) t2
  refine ⟨x, LA, Li, LB, uA, uB, s, c, by rw [List.getElem?_eq_getElem hi, hx], t3, t4, by simp, by omega, t1, t5, fun e he => ?_, fun e he => ?_⟩
  · by_cases hz : childIx l key = 0
    · rw [hz, List.take_zero] at t1
      have := t1.nil_iff.2 rfl
      subst this; simp at he
    · have h1 : x.1 ≤ key := by
        rw [← hx]
        refine (child_cmp hsl key _ hi).2 ?_
        unfold childIx at hz ⊢; omega
      obtain ⟨y, Li', rfl, h2⟩ := hd_eq t4
      have h3 := (List.pairwise_append.1 hs).2.2 e he y (by simp)
      omega
  · cases hdr : l.drop (childIx l key + 1) with
    | nil =>
      have := t5.nil_iff.2 hdr
      subst this; simp at he
    | cons y l' =>
      have hlt : childIx l key + 1 < l.length := by
        have := congrArg List.length hdr
        simp at this; omega
      have hy : l[childIx l key + 1] = y := by
        have h1 : (l.drop (childIx l key + 1))[0]? = some y := by rw [hdr]; rfl
        rw [List.getElem?_drop] at h1
        exact (List.getElem?_eq_some_iff.1 h1).2
      have h1 : ¬ y.1 ≤ key := by
        rw [← hy, child_cmp hsl key _ hlt]
        unfold childIx; omega
      have h2 := t5.hd
      rw [hdr] at h2
      obtain ⟨z, LB', rfl, h3⟩ := hd_eq h2
      have hsB : Srt (z :: LB') := Srt.sub hs ((List.sublist_append_right _ _).trans (List.sublist_append_right _ _))
      rcases List.mem_cons.1 he with rfl | he
      · omega
      · have := hsB.gt he; omega
end
theorem swapAt_len {l bl : List Pr} {i : Nat} (hi : i < l.length) : (swapAt l i bl).length = l.length - 1 + bl.length := by
  unfold swapAt; simp; omega
theorem Ts.len1 {P : Int → List Pr → Nat → Nat → Prop} {n : Nat} {l L : List Pr} {u : Nat} (h : Ts P n l L u) (hl : l = []) : L = [] ∧ u = 0 := by
  subst hl; cases h; exact ⟨rfl, rfl⟩
section
variable {Q : RoomI} {σ σ1 σ' : Sto} {D : List Int} {f : List Pr → List Pr} {pre : List Pr → Prop} {key : Int} {δ : Nat}
/-- the page that stands for one which names one alone. -/
theorem only_law (hok : ∀ b x, σ.nd b = some x → NdOk x) : ∀ (n : Nat) {x : Pr} {L : List Pr} {s c : Nat}, T σ.nd n x.2 L s c → hd? L = some x.1 → (2 ≤ x.2 ∧ x.2 < 32768) → (∀ b p, σ.pg b = some p → ∀ k ∈ kids p.n, 2 ≤ k ∧ k < 32768) →
    ∃ z m s' c', OnlyR σ x z ∧ m ≤ n ∧ T σ.nd m z.2 L s' c' ∧ s' * 4 ^ m + c' ≤ 4 ^ (n + 1) + (s - 4) * 4 ^ n + c ∧ hd? L = some z.1 ∧ 2 ≤ z.2 ∧ z.2 < 32768
  | 0, x, L, s, c, h, hh, hr, _ => by
    obtain ⟨p, h1, h2⟩ := pg_of_nd h.1
    exact ⟨x, 0, s, c, .stop h1 (.inl (by rw [h2])), Nat.le_refl _, h, by simp; omega, hh, hr⟩
  | n + 1, x, L, s, c, h, hh, hr, hk => by
    obtain ⟨l, h1, h2, h3⟩ := id h
    obtain ⟨p, h4, h5⟩ := pg_of_nd h1
    by_cases hl : l.length = 1
    · match l, hl, h3 with
      | [y], _, h3 =>
        obtain ⟨L1, L2, s1, c1, u', g1, g2, g3, rfl, rfl⟩ := Ts.uncons (k := y.1) (v := y.2) h3
        obtain ⟨rfl, rfl⟩ := g3.len1 rfl
        rw [List.append_nil] at *
        have hy := hk x.2 p h4 y.2 (by rw [h5]; simp [kids])
        obtain ⟨z, m, s', c', k1, k2, k3, k4, k5, k6⟩ := only_law hok n g1 g2 hy hk
        have e : 4 ^ (n + 1 + 1) = 4 * 4 ^ (n + 1) := by rw [Nat.pow_succ, Nat.mul_comm]
        exact ⟨z, m, s', c', .go h4 (by rw [h5]; simp) (by rw [h5]) k1, by omega, k3, by omega, k5, k6⟩
    · have hlen := (hok _ _ h1).2.1
      simp only at hlen
      refine ⟨x, n + 1, s, c, .stop h4 (.inr (by rw [h5]; simp only; omega)), Nat.le_refl _, h, ?_, hh, hr⟩
      have e : 4 ^ (n + 1 + 1) = 4 * 4 ^ (n + 1) := by rw [Nat.pow_succ, Nat.mul_comm]
      have h2 : s * 4 ^ (n + 1) ≤ (4 + (s - 4)) * 4 ^ (n + 1) := Nat.mul_le_mul_right _ (by omega)
      rw [Nat.add_mul] at h2
      omega
theorem IP.kid_rng {P : List Int} (h : IP Q σ D P) : ∀ b p, σ.pg b = some p → ∀ k ∈ kids p.n, 2 ≤ k ∧ k < 32768 := by
  intro b p hp k hk
  obtain ⟨q, h1, _⟩ := h.kid b p hp k hk
  obtain ⟨i, j, hT, _⟩ := Q.give h.room (is_true h1)
  obtain ⟨_, e, h2, _, _, h3, h4, _, _⟩ := inRoom_some hT.1
  omega
/-- going down: what is put, what it holds, how it may have grown. -/
theorem IP.down (hf : LeafF f pre key δ) : ∀ (n : Nat) {σ : Sto} {D : List Int} {a : Int} {L : List Pr} {s c : Nat} {top : Bool} (cc : List Int), IP Q σ D [] → T σ.nd n a L s c → RowOk L → pre L → σ.done + 2 * (n + 1) < 1000000000 →
    ∃ σ' D' new r, DownR f pre key σ cc a top σ' (cc ++ new) r ∧ IP Q σ' D' [] ∧ Ext σ σ' new ∧ new.length ≤ 2 * (n + 1) ∧
      ∀ bl, r = some bl → bl.length ≤ 2 ∧ (∀ e ∈ bl, 2 ≤ e.2 ∧ e.2 < 32768) ∧ (bl = [] ↔ f L = []) ∧
        (top = false → ∃ u', Ts (T σ'.nd n) n bl (f L) u' ∧ u' + (bl.length - 1) * 4 ^ (n + 1) ≤ (s - 4) * 4 ^ n + c + δ) ∧
        (top = true → ∃ m u', m ≤ n ∧ Ts (T σ'.nd m) m bl (f L) u' ∧ (bl.length = 2 → m = n ∧ 2 * 4 ^ (n + 1) + u' ≤ s * 4 ^ n + c + δ) ∧ (∀ x, bl = [x] → ∃ s' c', T σ'.nd m x.2 (f L) s' c' ∧ s' * 4 ^ m + c' ≤ s * 4 ^ n + c + δ))
  | 0, σ, D, a, L, s, c, top, cc, h, ht, hL, hp, hd => by
    obtain ⟨h1, rfl, rfl⟩ := ht
    obtain ⟨p, h2, h3⟩ := pg_of_nd h1
    have hok := h.ok a p h2
    have hl7 := hok.2.2.1
    rw [h3] at hl7
    simp only at hl7
    have hlen := hf.len L hL.1
    have h1 := hf.one
    have hrow : RowOk (f L) := ⟨hf.srt L hL.1, hf.ok L hL.2⟩
    obtain ⟨σ', D', new, r, k1, k2, k3, k4, k5⟩ := h.cut (lv := 0) (R := fun l L u => L = l ∧ u = 0) (l := f L) (L := f L) (u := 0) cc RowT.leaf ⟨rfl, rfl⟩ hrow (by omega) (by omega) (by omega)
    refine ⟨σ', D', new, r, .leaf h2 hok (by rw [h3]) (by rw [h3]; exact hp) (by rw [h3]; simp only; omega) (by rw [h3]; exact k1), k2, k3, by omega, fun bl hbl => ?_⟩
    obtain ⟨u', g1, g2, g3, g4, g5, g6⟩ := k5 bl hbl
    have hiff : bl = [] ↔ f L = [] := ⟨fun e => (g1.nil_iff.2 e), fun e => g1.nil_iff.1 e⟩
    have hzero : f L = [] → u' = 0 := fun e => (g4 e).2
    refine ⟨g2, g3, hiff, fun _ => ⟨u', g1, ?_⟩, fun _ => ⟨0, u', Nat.le_refl _, g1, fun h2 => ⟨rfl, ?_⟩, fun x hx => ?_⟩⟩
    · by_cases e : f L = []
      · rw [hzero e, hiff.2 e]; simp
      · by_cases e7 : (f L).length ≤ 7
        · obtain ⟨q1, q2, _⟩ := g5 e e7
          rw [q1, q2]; simp; omega
        · obtain ⟨q1, q2⟩ := g6 (by omega)
          rw [q1, q2]; simp; omega
    · have h8 : (f L).length = 8 := by
        apply Classical.byContradiction
        intro hne
        by_cases e : f L = []
        · rw [hiff.2 e] at h2; simp at h2
        · have := (g5 e (by omega)).1; omega
      rw [(g6 h8).2]; simp; omega
    · have e : f L ≠ [] := fun e => by rw [hiff.2 e] at hx; cases hx
      have e7 : (f L).length ≤ 7 := by
        apply Classical.byContradiction
        intro hne
        have := (g6 (by omega)).1
        rw [hx] at this; simp at this
      refine ⟨_, _, (g5 e e7).2.2 x hx, ?_⟩
      simp; omega
  | n + 1, σ, D, a, L, s, c, top, cc, h, ht, hL, hp, hd => by
    obtain ⟨l, h1, rfl, ht⟩ := ht
    obtain ⟨p, h2, h3⟩ := pg_of_nd h1
    have hok := h.ok a p h2
    have hl1 := hok.2.1
    have hl7 := hok.2.2.1
    have hlv := hok.1
    rw [h3] at hl7 hl1 hlv
    simp only at hl7 hl1 hlv
    have hlne : l ≠ [] := fun e => by rw [e] at hl1; simp at hl1
    have hδ := hf.one
    obtain ⟨x, LA, Li, LB, uA, uB, si, ci, hx, tx, hx2, rfl, rfl, tA, tB, hA, hB⟩ := ht.child hL.1 hlne key
    have hLi : RowOk Li := ⟨hL.1.sub ((List.sublist_append_right _ _).trans (List.sublist_append_left _ _)), fun e he => hL.2 e (by simp [he])⟩
    obtain ⟨σ1, D1, new1, r1, k1, k2, k3, k4, k5⟩ := IP.down hf n (top := false) cc h tx hLi (hf.pre _ _ _ hL.1 hA hB hp) (by omega)
    have h0 : 0 < p.n.lv := by rw [h3]; simp
    have hx' : p.n.l[childIx p.n.l key]? = some x := by rw [h3]; exact hx
    cases r1 with
    | none => exact ⟨σ1, D1, new1, none, .fail h2 hok h0 hx' k1, k2, k3, by omega, fun bl hbl => by cases hbl⟩
    | some bl =>
      obtain ⟨b1, b2, b3, b4, _⟩ := k5 bl rfl
      obtain ⟨ub, b4, b5⟩ := b4 rfl
      have hfL := hf.loc _ _ _ hL.1 hA hB
      have hrowL : RowOk (f (LA ++ Li ++ LB)) := ⟨hf.srt _ hL.1, hf.ok _ hL.2⟩
      have hm : ∀ (e : Pr) L s c, T σ.nd n e.2 L s c → T σ1.nd n e.2 L s c := fun e L s c ht => ht.more fun b x => k3.nd
      have hi := childIx_lt hlne key
      have hT : Ts (T σ1.nd n) n (swapAt l (childIx l key) bl) (f (LA ++ Li ++ LB)) (uA + ub + uB) := by
        rw [hfL]
        exact ((tA.mono fun e he L s c ht => hm e L s c ht).append b4).append (tB.mono fun e he L s c ht => hm e L s c ht)
      have hslen : (swapAt l (childIx l key) bl).length = l.length - 1 + bl.length := swapAt_len hi
      have hrowS : RowOk (swapAt l (childIx l key) bl) := by
        refine ⟨hT.srt hrowL.1, fun e he => ?_⟩
        have hk1 := hT.keys hrowL.2 e he
        obtain ⟨L1, s, c', g1, _, _, _⟩ := hT.mem he
        obtain ⟨l', g2, _⟩ := g1.at
        obtain ⟨q, g3, g4⟩ := pg_of_nd g2
        obtain ⟨i, j, hT, _⟩ := Q.give k2.room (is_true g3)
        obtain ⟨_, e1, e2, _, _, e3, e4, _, _⟩ := inRoom_some hT.1
        exact ⟨hk1.1, hk1.2, by omega, by omega⟩
      generalize hX : 4 ^ (n + 1) = X at *
      have hX2 : 4 ^ (n + 1 + 1) = 4 * X := by rw [Nat.pow_succ, hX, Nat.mul_comm]
      have hXpos : 0 < X := by rw [← hX]; exact Nat.pow_pos (by omega)
      generalize hU : (si - 4) * 4 ^ n + ci = U at *
      have hbx : ub + (if bl.length = 2 then X else 0) ≤ U + δ := by
        split
        · rename_i e; rw [e] at b5; simpa using b5
        · omega
      by_cases hone : top = true ∧ (swapAt l (childIx l key) bl).length = 1
      · obtain ⟨rfl, h1l⟩ := hone
        obtain ⟨y, hy⟩ : ∃ y, swapAt l (childIx l key) bl = [y] := List.length_eq_one_iff.1 h1l
        rw [hy] at hT
        obtain ⟨L1, L2, s1, c1, u', g1, g2, g3, e1, e2⟩ := Ts.uncons (k := y.1) (v := y.2) hT
        obtain ⟨rfl, rfl⟩ := g3.len1 rfl
        rw [List.append_nil] at e1
        rw [← e1] at g1 g2
        have hry : 2 ≤ y.2 ∧ y.2 < 32768 := by
          obtain ⟨l', q2, _⟩ := g1.at
          obtain ⟨q, q3, q4⟩ := pg_of_nd q2
          obtain ⟨i, j, hT, _⟩ := Q.give k2.room (is_true q3)
          obtain ⟨_, e1, e2, _, _, e3, e4, _, _⟩ := inRoom_some hT.1
          omega
        obtain ⟨z, m, s', c', q1, q2, q3, q4, q5, q6⟩ := only_law k2.nd_ok n g1 g2 hry k2.kid_rng
        refine ⟨σ1, D1, new1, some [z], .only h2 hok h0 hx' k1 b1 (by rw [h3]; exact hrowS) (by rw [h3]; exact hy) q1, k2, k3, by omega, fun bl' hbl => ?_⟩
        cases hbl
        have hb1 : bl.length ≤ 1 → 1 ≤ l.length := fun _ => hl1
        refine ⟨by simp, by simpa using q6, ⟨fun e => by simp at e, fun e => by rw [e] at g2; simp [hd?] at g2⟩, (fun e => by cases e), fun _ => ⟨m, _, by omega, Ts.one (P := T σ1.nd m) (n := m) (k := z.1) (v := z.2) q3 q5, fun e => by simp at e, fun w hw => ?_⟩⟩
        cases hw
        refine ⟨s', c', q3, ?_⟩
        have h5 : X ≤ l.length * X := Nat.le_mul_of_pos_left _ (by omega)
        have h6 : bl.length ≠ 2 := by omega
        rw [if_neg h6] at hbx
        rw [hX] at q4
        omega
      · have hone' : top = false ∨ (swapAt l (childIx l key) bl).length ≠ 1 := by
          cases top
          · exact .inl rfl
          · exact .inr fun e => hone ⟨rfl, e⟩
        have hd1 := k3.done
        obtain ⟨σ', D', new, r, q1, q2, q3, q4, q5⟩ := k2.cut (lv := n + 1) (l := swapAt l (childIx l key) bl) (L := f (LA ++ Li ++ LB)) (u := uA + ub + uB) (cc ++ new1) RowT.up hT hrowS (by omega) (by omega) (by omega)
        refine ⟨σ', D', new1 ++ new, r, .node h2 hok h0 hx' k1 b1 (by rw [h3]; exact hrowS) (by rw [h3]; exact hone') (by rw [h3, ← List.append_assoc]; exact q1), q2, k3.trans q3, by simp; omega, fun bl' hbl => ?_⟩
        obtain ⟨u', g1, g2, g3, g4, g5, g6⟩ := q5 bl' hbl
        have hiff : bl' = [] ↔ f (LA ++ Li ++ LB) = [] := ⟨fun e => g1.nil_iff.2 e, fun e => g1.nil_iff.1 e⟩
        have hiff2 : swapAt l (childIx l key) bl = [] ↔ f (LA ++ Li ++ LB) = [] := ⟨fun e => hT.nil_iff.2 e, fun e => hT.nil_iff.1 e⟩
        generalize hm : swapAt l (childIx l key) bl = m at *
        rw [hX] at g5
        have hmul : ∀ a b : Nat, a ≤ b → a * X ≤ b * X := fun a b h => Nat.mul_le_mul_right X h
        refine ⟨g2, g3, hiff, fun _ => ⟨u', g1, ?_⟩, fun ht => ⟨n + 1, u', Nat.le_refl _, g1, fun h2 => ⟨rfl, ?_⟩, fun x hx => ?_⟩⟩
        · rw [hX2]
          by_cases e : m = []
          · rw [(g4 e).2, (g4 e).1]; simp
          · by_cases e7 : m.length ≤ 7
            · obtain ⟨w1, w2, _⟩ := g5 e e7
              rw [w1, w2]
              by_cases e2 : bl.length = 2
              · rw [if_pos e2] at hbx
                have h6 := hmul (m.length - 4) (l.length - 4 + 1) (by omega)
                rw [Nat.add_mul] at h6
                omega
              · rw [if_neg e2] at hbx
                have h6 := hmul (m.length - 4) (l.length - 4) (by omega)
                omega
            · obtain ⟨w1, w2⟩ := g6 (by omega)
              rw [w1, w2]
              have e2 : bl.length = 2 := by omega
              have el : l.length = 7 := by omega
              rw [if_pos e2] at hbx
              rw [el]
              omega
        · rw [hX2]
          have e8 : m.length = 8 := by
            apply Classical.byContradiction
            intro hne
            by_cases e : m = []
            · rw [(g4 e).1] at h2; simp at h2
            · have := (g5 e (by omega)).1; omega
          obtain ⟨w1, w2⟩ := g6 e8
          have e2 : bl.length = 2 := by omega
          have el : l.length = 7 := by omega
          rw [if_pos e2] at hbx
          rw [el, w2]
          omega
        · have e : m ≠ [] := fun e => by rw [(g4 e).1] at hx; cases hx
          have e7 : m.length ≤ 7 := by
            apply Classical.byContradiction
            intro hne
            have := (g6 (by omega)).1
            rw [hx] at this; simp at this
          refine ⟨_, _, (g5 e e7).2.2 x hx, ?_⟩
          rw [hX]
          by_cases e2 : bl.length = 2
          · rw [if_pos e2] at hbx
            have h6 := hmul m.length (l.length + 1) (by omega)
            rw [Nat.add_mul] at h6
            omega
          · rw [if_neg e2] at hbx
            have h6 := hmul m.length l.length (by omega)
            omega
end
end Go.Proofs.YtemenmmekddjaaaGreatDoor
end
section
namespace Go.Proofs.YtemenmmekddjaaaGreatDoor
/-- pages went. -/
structure Rest (σ σ' : Sto) : Prop where
  same : ∀ a p', σ'.pg a = some p' → ∃ p, σ.pg a = some p ∧ p'.n = p.n ∧ p'.held = p.held ∧ (p'.holds = 0 → p.holds = 0)
  gone : ∀ a p, σ.pg a = some p → σ'.pg a = none → p.held = 0
  was : σ'.was = σ.was
  bk : σ'.bk = σ.bk
  done : σ'.done = σ.done
def NoZero (σ : Sto) : Prop := ∀ a p, σ.pg a = some p → p.holds ≠ 0
/-- holds that come of no page. -/
def Sto.hd (σ : Sto) (a : Int) : Int := match σ.pg a with
  | some p => p.held
  | none => 0
section
variable {Q : RoomI} {σ σ1 σ' : Sto} {D P : List Int} {a b : Int} {p : Pg}
theorem Less.rest (h : Less σ σ') : Rest σ σ' where
  same a p' hp := by
    obtain ⟨p, h1, h2, h3, h4, _⟩ := h.same a p' hp
    exact ⟨p, h1, h2, h3, h4⟩
  gone a p hp hn := (h.gone a p hp hn).1
  was := h.was
  bk := h.bk
  done := h.done
theorem Rest.refl : Rest σ σ where
  same a p hp := ⟨p, hp, rfl, rfl, id⟩
  gone a p hp hn := by rw [hp] at hn; cases hn
  was := rfl
  bk := rfl
  done := rfl
theorem Rest.trans (h : Rest σ σ1) (h' : Rest σ1 σ') : Rest σ σ' where
  same a p' hp := by
    obtain ⟨p1, h1, h2, h3, h4⟩ := h'.same a p' hp
    obtain ⟨p, g1, g2, g3, g4⟩ := h.same a p1 h1
    exact ⟨p, g1, h2.trans g2, h3.trans g3, fun h => g4 (h4 h)⟩
  gone a p hp hn := by
    cases h1 : σ1.pg a with
    | none => exact h.gone a p hp h1
    | some p1 =>
      obtain ⟨p0, g1, g2, g3, g4⟩ := h.same a p1 h1
      rw [hp] at g1; cases g1
      rw [← g3]; exact h'.gone a p1 h1 hn
  was := h'.was.trans h.was
  bk := h'.bk.trans h.bk
  done := h'.done.trans h.done
theorem Rest.hd (h : Rest σ σ') (a : Int) : σ'.hd a = σ.hd a := by
  unfold Sto.hd
  cases h1 : σ'.pg a with
  | some p' =>
    obtain ⟨p, g1, g2, g3, g4⟩ := h.same a p' h1
    rw [g1]; exact g3
  | none =>
    cases h2 : σ.pg a with
    | none => rfl
    | some p => exact (h.gone a p h2 h1).symm
theorem Ext.hd {A : List Int} (h : Ext σ σ' A) (a : Int) : σ'.hd a = σ.hd a := by
  unfold Sto.hd
  cases h1 : σ.pg a with
  | some p =>
    obtain ⟨p', g1, g2, g3, _⟩ := h.old a p h1
    rw [g1]; exact g3
  | none =>
    cases h2 : σ'.pg a with
    | none => rfl
    | some p' => exact (h.fresh a p' h2 h1).2
theorem Rest.nd (h : Rest σ σ') {x : Nd} (hx : σ.nd b = some x) : σ'.nd b = some x ∨ σ'.nd b = none := by
  obtain ⟨p, h1, rfl⟩ := pg_of_nd hx
  cases h2 : σ'.pg b with
  | none => right; exact nd_none.2 h2
  | some p' =>
    left
    obtain ⟨p0, g1, g2, _⟩ := h.same b p' h2
    rw [h1] at g1; cases g1
    rw [nd_of_pg h2, g2]
theorem own_pg (h : Int) : (σ.own a h).pg b = if b = a then (σ.pg a).map (fun p => { p with held := p.held + h }) else σ.pg b := rfl
theorem IP.tree_stays {n : Nat} {L : List Pr} {s c : Nat} (h : IP Q σ' D P) (hr : ∀ b x, σ.nd b = some x → σ'.nd b = some x ∨ σ'.nd b = none) (ht : T σ.nd n a L s c) (ha : σ'.pg a ≠ none) : T σ'.nd n a L s c := by
  refine ht.mono hr (fun b x hb k hk => ?_) (fun h => ha (nd_none.1 h))
  obtain ⟨p, h1, rfl⟩ := pg_of_nd hb
  obtain ⟨q, h2, _⟩ := h.kid b p h1 k hk
  intro h3; rw [nd_none.1 h3] at h2; cases h2
/-- a hold that is pending. -/
theorem IP.inc (h : IP Q σ D P) (ha : a ∈ D) : IP Q (σ.add a 1) D (a :: P) := by
  have hback : ∀ b p, (σ.add a 1).pg b = some p → ∃ p0, σ.pg b = some p0 ∧ p.n = p0.n ∧ p.held = p0.held ∧ p.holds = p0.holds + (if b = a then 1 else 0) := by
    intro b p hp
    rw [add_pg] at hp
    by_cases e : b = a
    · subst e
      rw [if_pos rfl] at hp
      cases h1 : σ.pg b with
      | none => rw [h1] at hp; cases hp
      | some p0 => rw [h1] at hp; cases hp; exact ⟨p0, rfl, rfl, rfl, by simp⟩
    · rw [if_neg e] at hp
      exact ⟨p, hp, rfl, rfl, by rw [if_neg e]; omega⟩
  refine ⟨h.nodup, fun b => ?_, fun b p hp => ?_, fun b p hp k hk => ?_, fun b p hp => ?_, fun b p hp => ?_, fun b hb => ?_, ?_⟩
  · rw [h.mem, Ne, Ne, ← nd_none, ← nd_none, add_nd]
  · obtain ⟨p0, h1, h2, _⟩ := hback b p hp
    rw [h2]; exact h.ok b p0 h1
  · obtain ⟨p0, h1, h2, _⟩ := hback b p hp
    rw [h2] at hk ⊢
    obtain ⟨q, h3, h4⟩ := h.kid b p0 h1 k hk
    rw [add_pg]
    split
    · rename_i e; subst e; rw [h3]; exact ⟨_, rfl, h4⟩
    · exact ⟨q, h3, h4⟩
  · obtain ⟨p0, h1, h2, h3, h4⟩ := hback b p hp
    have h5 := h.cnt b p0 h1
    rw [add_nd, h3, h4, h5]
    by_cases e : b = a
    · subst e; simp; omega
    · rw [if_neg e, List.count_cons_of_ne (fun h => e h.symm)]; omega
  · obtain ⟨p0, h1, h2, h3, h4⟩ := hback b p hp
    rw [h3]; exact h.held b p0 h1
  · rcases List.mem_cons.1 hb with rfl | hb
    · exact ha
    · exact h.pend b hb
  · rw [show (σ.add a 1).is = σ.is from is_of_nd (add_nd _)]
    exact h.room
/-- a hold of its own becomes a pending one, or a pending one its own. -/
theorem IP.ownG {h0 : Int} {P' : List Int} (h : IP Q σ D P) (hh : ∀ p, σ.pg a = some p → 0 ≤ p.held + h0 ∧ p.held + h0 ≤ 1000000) (hP : ∀ b, (P'.count b : Int) = P.count b - (if b = a then h0 else 0)) (hpd : ∀ b ∈ P', b ∈ D) : IP Q (σ.own a h0) D P' := by
  have hback : ∀ b p, (σ.own a h0).pg b = some p → ∃ p0, σ.pg b = some p0 ∧ p.n = p0.n ∧ p.holds = p0.holds ∧ p.held = p0.held + (if b = a then h0 else 0) := by
    intro b p hp
    rw [own_pg] at hp
    by_cases e : b = a
    · subst e
      rw [if_pos rfl] at hp
      cases h1 : σ.pg b with
      | none => rw [h1] at hp; cases hp
      | some p0 => rw [h1] at hp; cases hp; exact ⟨p0, rfl, rfl, rfl, by simp⟩
    · rw [if_neg e] at hp
      exact ⟨p, hp, rfl, rfl, by rw [if_neg e]; omega⟩
  refine ⟨h.nodup, fun b => ?_, fun b p hp => ?_, fun b p hp k hk => ?_, fun b p hp => ?_, fun b p hp => ?_, hpd, ?_⟩
  · rw [h.mem, Ne, Ne, ← nd_none, ← nd_none, own_nd]
  · obtain ⟨p0, h1, h2, _⟩ := hback b p hp
    rw [h2]; exact h.ok b p0 h1
  · obtain ⟨p0, h1, h2, _⟩ := hback b p hp
    rw [h2] at hk ⊢
    obtain ⟨q, h3, h4⟩ := h.kid b p0 h1 k hk
    rw [own_pg]
    split
    · rename_i e; subst e; rw [h3]; exact ⟨_, rfl, h4⟩
    · exact ⟨q, h3, h4⟩
  · obtain ⟨p0, h1, h2, h3, h4⟩ := hback b p hp
    have h5 := h.cnt b p0 h1
    have h6 := hP b
    rw [own_nd, h3, h4, h5]
    omega
  · obtain ⟨p0, h1, h2, h3, h4⟩ := hback b p hp
    rw [h4]
    by_cases e : b = a
    · subst e; rw [if_pos rfl]; exact hh p0 h1
    · rw [if_neg e, Int.add_zero]; exact h.held b p0 h1
  · rw [show (σ.own a h0).is = σ.is from is_of_nd (own_nd _)]
    exact h.room
theorem own_hd {h0 : Int} (hp : σ.pg a = some p) (b : Int) : (σ.own a h0).hd b = σ.hd b + (if b = a then h0 else 0) := by
  unfold Sto.hd
  rw [own_pg]
  by_cases e : b = a
  · subst e; simp [hp]
  · simp [e]
theorem add_hd {h0 : Int} (b : Int) : (σ.add a h0).hd b = σ.hd b := by
  unfold Sto.hd
  rw [add_pg]
  by_cases e : b = a
  · subst e; rw [if_pos rfl]; cases σ.pg b <;> rfl
  · simp [e]
theorem IP.hold (h : IP Q σ D []) (hp : σ.pg a = some p) (hh : p.held < 1000000) : ∃ σ', HoldR σ a σ' ∧ IP Q σ' D [] ∧ σ'.nd = σ.nd ∧ (∀ b, σ'.hd b = σ.hd b + (if b = a then 1 else 0)) ∧
    (∀ b q, σ'.pg b = some q → ∃ q0, σ.pg b = some q0 ∧ q.holds = q0.holds + (if b = a then 1 else 0)) ∧ σ'.done = σ.done ∧ σ'.was = σ.was ∧ σ'.ds = σ.ds ∧ σ'.bk = σ.bk := by
  have hl := h.holds_le hp
  have hd := h.held a p hp
  have ha : a ∈ D := (h.mem a).2 (by rw [hp]; simp)
  have h1 := h.inc ha
  have hp1 : (σ.add a 1).pg a = some { p with holds := p.holds + 1 } := by rw [add_pg, if_pos rfl, hp]; rfl
  refine ⟨_, .mk hp (by omega) (by omega) (by omega) (by omega), h1.ownG (fun q hq => by rw [hp1] at hq; cases hq; simp only; omega) (fun b => ?_) (by simp), by rw [own_nd, add_nd], fun b => by rw [own_hd hp1, add_hd], fun b q hq => ?_, rfl, rfl, rfl, rfl⟩
  · by_cases e : b = a
    · subst e; simp
    · rw [List.count_cons_of_ne (fun h => e h.symm)]; simp [e]
  · rw [own_pg] at hq
    by_cases e : b = a
    · subst e
      rw [if_pos rfl, hp1] at hq
      cases hq
      exact ⟨p, hp, by simp⟩
    · rw [if_neg e, add_pg, if_neg e] at hq
      exact ⟨q, hq, by simp [e]⟩
theorem IP.drop (h : IP Q σ D []) (hp : σ.pg a = some p) (hh : 0 < p.held) : ∃ σ' D', DropR σ a σ' ∧ IP Q σ' D' [] ∧ (∀ b x, σ.nd b = some x → σ'.nd b = some x ∨ σ'.nd b = none) ∧ (∀ b, σ'.pg b ≠ none → σ.pg b ≠ none) ∧ (∀ b, σ'.hd b = σ.hd b - (if b = a then 1 else 0)) ∧
    (∀ b q, σ'.pg b = some q → q.holds = 0 → ∃ q0, σ.pg b = some q0 ∧ q0.holds = 0) ∧ (∀ b, σ'.pg b = none → σ'.hd b = 0) ∧ σ'.done = σ.done ∧ σ'.was = σ.was ∧ σ'.bk = σ.bk := by
  have hd := h.held a p hp
  have ha : a ∈ D := (h.mem a).2 (by rw [hp]; simp)
  have h1 : IP Q (σ.own a (-1)) D ([a] ++ []) := h.ownG (P' := [a] ++ []) (fun q hq => by rw [hp] at hq; cases hq; omega) (fun b => by
    by_cases e : b = a
    · subst e; simp
    · simp only [List.append_nil]
      rw [List.count_cons_of_ne (fun h => e h.symm)]; simp [e]) (by simpa using ha)
  obtain ⟨σ', D', g1, g2, g3, _⟩ := h1.gone _ [a] (Nat.le_refl _)
  have g4 := g3.rest
  refine ⟨σ', D', .mk hp hh (by omega) g1, g2, fun b x hx => g4.nd (by rw [own_nd]; exact hx), fun b hb hn => ?_, fun b => ?_, fun b q hq h0 => ?_, fun b hb => by unfold Sto.hd; rw [hb], g3.done, g3.was, g3.bk⟩
  · cases h2 : σ'.pg b with
    | none => exact hb h2
    | some q =>
      obtain ⟨q0, k1, _⟩ := g4.same b q h2
      rw [own_pg] at k1
      split at k1
      · rename_i e; subst e; rw [hn] at k1; cases k1
      · rw [hn] at k1; cases k1
  · rw [g4.hd, own_hd hp]
    split <;> omega
  · obtain ⟨q0, k1, _, _, k4⟩ := g4.same b q hq
    rw [own_pg] at k1
    by_cases e : b = a
    · subst e
      rw [if_pos rfl, hp] at k1
      cases k1
      exact ⟨p, hp, k4 h0⟩
    · rw [if_neg e] at k1
      exact ⟨q0, k1, k4 h0⟩
theorem add_rm {i j : Nat} (h0 : Int) : (σ.add a h0).rm a i j = σ.rm a i j := by
  unfold Sto.rm Sto.add Sto.set
  simp only [Sto.mk.injEq, and_true]
  funext b
  split <;> rfl
/-- what has no hold goes. -/
theorem IP.fail : ∀ (c : List Int) {σ : Sto} {D : List Int}, IP Q σ D [] → (∀ a p, σ.pg a = some p → p.holds = 0 → a ∈ c) → ∃ σ' D', FailR σ c σ' ∧ IP Q σ' D' [] ∧ Rest σ σ' ∧ NoZero σ'
  | [], σ, D, h, hz => ⟨σ, D, .nil, h, .refl, fun a p hp h0 => by have := hz a p hp h0; simp at this⟩
  | a :: c, σ, D, h, hz => by
    cases hp : σ.pg a with
    | none =>
      obtain ⟨σ', D', g1, g2, g3, g4⟩ := IP.fail c h fun b q hq h0 => by
        rcases List.mem_cons.1 (hz b q hq h0) with rfl | hb
        · rw [hp] at hq; cases hq
        · exact hb
      exact ⟨σ', D', .miss hp g1, g2, g3, g4⟩
    | some p =>
      by_cases h0 : p.holds = 0
      · have ha : a ∈ D := (h.mem a).2 (by rw [hp]; simp)
        obtain ⟨i, j, hT, hroom⟩ := Q.give h.room (is_true hp)
        have h1 := h.inc ha
        have hp1 : (σ.add a 1).pg a = some { p with holds := p.holds + 1 } := by rw [add_pg, if_pos rfl, hp]; rfl
        have h2 := IP.rm (i := i) (j := j) h1 hp1 (by simp only; omega) (by
          rw [show (σ.add a 1).is = σ.is from is_of_nd (add_nd _)]
          exact hroom)
        rw [add_rm] at h2
        obtain ⟨σ1, D1, g1, g2, g3, _⟩ := h2.gone _ (kids p.n) (Nat.le_refl _)
        have hr : Rest σ σ1 := by
          refine Rest.trans (σ1 := σ.rm a i j) ⟨fun b q hq => ?_, fun b q hq hn => ?_, rfl, rfl, rfl⟩ g3.rest
          · rw [rm_pg] at hq
            split at hq
            · cases hq
            · exact ⟨q, hq, rfl, rfl, id⟩
          · rw [rm_pg] at hn
            split at hn
            · rename_i e; subst e; rw [hp] at hq; cases hq
              have := h.cnt b p hp
              have := h.held b p hp
              omega
            · rw [hq] at hn; cases hn
        obtain ⟨σ', D', k1, k2, k3, k4⟩ := IP.fail c g2 fun b q hq hz0 => by
          obtain ⟨q0, m1, _, _, m4⟩ := g3.rest.same b q hq
          rw [rm_pg] at m1
          split at m1
          · cases m1
          · rename_i e
            rcases List.mem_cons.1 (hz b q0 m1 (m4 hz0)) with rfl | hb
            · exact absurd rfl e
            · exact hb
        exact ⟨σ', D', .go hp h0 hT g1 k1, k2, hr.trans k3, k4⟩
      · obtain ⟨σ', D', g1, g2, g3, g4⟩ := IP.fail c h fun b q hq hz0 => by
          rcases List.mem_cons.1 (hz b q hq hz0) with rfl | hb
          · rw [hp] at hq; cases hq; exact absurd hz0 h0
          · exact hb
        exact ⟨σ', D', .skip hp h0 g1, g2, g3, g4⟩
/-- above each page that has holds there is one that is held by itself. -/
theorem IP.above (h : IP Q σ D []) (X : Int → Prop) (hz : ∀ a p, σ.pg a = some p → X a → p.holds ≠ 0) (hup : ∀ a b p, X a → σ.pg b = some p → a ∈ kids p.n → X b) : ∀ (k : Nat) (a : Int) (p : Pg), σ.pg a = some p → X a → 20 ≤ p.n.lv + k → ∃ r q, X r ∧ σ.pg r = some q ∧ 0 < q.held := by
  intro k
  induction k with
  | zero =>
    intro a p hp hX hk
    have h1 := hz a p hp hX
    have h2 := h.cnt a p hp
    have h3 := h.held a p hp
    by_cases h4 : 0 < p.held
    · exact ⟨a, p, hX, hp, h4⟩
    · have : 0 < refs σ.nd D a := by simp at h2; omega
      obtain ⟨b, hb, n, h5, h6⟩ := refs_pos this
      obtain ⟨q, h7, rfl⟩ := pg_of_nd h5
      obtain ⟨p', h8, h9⟩ := h.kid b q h7 a h6
      rw [hp] at h8; cases h8
      have := h.lv20 h7
      omega
  | succ k ih =>
    intro a p hp hX hk
    have h1 := hz a p hp hX
    have h2 := h.cnt a p hp
    have h3 := h.held a p hp
    by_cases h4 : 0 < p.held
    · exact ⟨a, p, hX, hp, h4⟩
    · have : 0 < refs σ.nd D a := by simp at h2; omega
      obtain ⟨b, hb, n, h5, h6⟩ := refs_pos this
      obtain ⟨q, h7, rfl⟩ := pg_of_nd h5
      obtain ⟨p', h8, h9⟩ := h.kid b q h7 a h6
      rw [hp] at h8; cases h8
      exact ih b q h7 (hup a b q hX h7 h6) (by omega)
/-- a change that fails leaves all as it was. -/
theorem IP.undone {D' new : List Int} (h : IP Q σ D []) (hz : NoZero σ) (he : Ext σ σ1 new) (hr : Rest σ1 σ') (h' : IP Q σ' D' []) (hz' : NoZero σ') : σ'.pg = σ.pg ∧ IP Q σ' D [] := by
  have hold : ∀ b p p', σ.pg b = some p → σ'.pg b = some p' → p'.n = p.n ∧ p'.held = p.held := by
    intro b p p' h1 h2
    obtain ⟨p1, g1, g2, g3, _⟩ := he.old b p h1
    obtain ⟨p2, k1, k2, k3, _⟩ := hr.same b p' h2
    rw [g1] at k1; cases k1
    exact ⟨k2.trans g2, k3.trans g3⟩
  have hA : ∀ a p, σ.pg a = some p → σ'.pg a ≠ none := by
    intro a p hp hn
    obtain ⟨r, q, ⟨x1, x2⟩, x3, x4⟩ := h.above (fun b => σ.pg b ≠ none ∧ σ'.pg b = none) (fun a p hp _ => hz a p hp) (fun a b q hX hq hk => by
      refine ⟨by rw [hq]; simp, ?_⟩
      cases hb : σ'.pg b with
      | none => rfl
      | some q' =>
        rw [← (hold b q q' hq hb).1] at hk
        obtain ⟨_, h2, _⟩ := h'.kid b q' hb a hk
        rw [hX.2] at h2; cases h2) 20 a p hp ⟨by rw [hp]; simp, hn⟩ (by omega)
    obtain ⟨p1, g1, g2, g3, _⟩ := he.old r q x3
    have := hr.gone r p1 g1 x2
    omega
  have hB : ∀ a p, σ'.pg a = some p → σ.pg a ≠ none := by
    intro a p hp hn
    obtain ⟨r, q, ⟨x1, x2⟩, x3, x4⟩ := h'.above (fun b => σ'.pg b ≠ none ∧ σ.pg b = none) (fun a p hp _ => hz' a p hp) (fun a b q hX hq hk => by
      refine ⟨by rw [hq]; simp, ?_⟩
      cases hb : σ.pg b with
      | none => rfl
      | some q' =>
        rw [(hold b q' q hb hq).1] at hk
        obtain ⟨_, h2, _⟩ := h.kid b q' hb a hk
        rw [hX.2] at h2; cases h2) 20 a p hp ⟨by rw [hp]; simp, hn⟩ (by omega)
    obtain ⟨p1, g1, g2, g3, _⟩ := hr.same r q x3
    have := (he.fresh r p1 g1 x2).2
    omega
  have hnd : σ'.nd = σ.nd := by
    funext b
    cases h1 : σ.pg b with
    | none =>
      cases h2 : σ'.pg b with
      | none => rw [nd_none.2 h1, nd_none.2 h2]
      | some p' => exact absurd h1 (hB b p' h2)
    | some p =>
      cases h2 : σ'.pg b with
      | none => exact absurd h2 (hA b p h1)
      | some p' => rw [nd_of_pg h1, nd_of_pg h2, (hold b p p' h1 h2).1]
  have hperm : D'.Perm D := (List.perm_ext_iff_of_nodup h'.nodup h.nodup).2 fun b => by
    rw [h'.mem, h.mem, Ne, Ne, ← nd_none, ← nd_none, hnd]
  refine ⟨?_, ⟨h.nodup, fun b => by rw [← hperm.mem_iff, h'.mem], h'.ok, h'.kid, fun b p hp => ?_, h'.held, by simp, h'.room⟩⟩
  · funext b
    cases h1 : σ.pg b with
    | none =>
      cases h2 : σ'.pg b with
      | none => rfl
      | some p' => exact absurd h1 (hB b p' h2)
    | some p =>
      cases h2 : σ'.pg b with
      | none => exact absurd h2 (hA b p h1)
      | some p' =>
        obtain ⟨e1, e2⟩ := hold b p p' h1 h2
        have c1 := h.cnt b p h1
        have c2 := h'.cnt b p' h2
        rw [hnd, refs_perm hperm, e2, ← c1] at c2
        cases p; cases p'
        simp only at e1 e2 c2
        subst e1; subst e2; subst c2; rfl
  · rw [h'.cnt b p hp, refs_perm hperm]
end
end Go.Proofs.YtemenmmekddjaaaGreatDoor
end
section
namespace Go.Proofs.YtemenmmekddjaaaGreatDoor
/-- what a change of the tree at root leaves: the new tree is at 'to'. -/
structure Ran (Q : RoomI) (σ : Sto) (root : Int) (σ' : Sto) (to : Int) (L' : List Pr) (pot : Nat) : Prop where
  ip : ∃ D', IP Q σ' D' []
  nz : NoZero σ'
  nd : ∀ b x, σ.nd b = some x → σ'.nd b = some x ∨ σ'.nd b = none
  hd : ∀ b, σ'.hd b = σ.hd b + (if b = to ∧ to ≠ 0 then 1 else 0) - (if b = root then 1 else 0)
  was : σ'.was = σ.was
  tree : (to = 0 ∧ L' = []) ∨ (2 ≤ to ∧ to < 32768 ∧ ∃ m s c, T σ'.nd m to L' s c ∧ s * 4 ^ m + c ≤ pot)
section
variable {Q : RoomI} {σ σ1 σ' : Sto} {D : List Int} {f : List Pr → List Pr} {pre : List Pr → Prop} {key : Int} {δ : Nat}
theorem pg_of_hd {a : Int} (h : σ.hd a ≠ 0) : ∃ p, σ.pg a = some p ∧ p.held = σ.hd a := by
  unfold Sto.hd at *
  cases h1 : σ.pg a with
  | none => rw [h1] at h; exact absurd rfl h
  | some p => exact ⟨p, rfl, rfl⟩
theorem hd_of_pg {a : Int} {p : Pg} (h : σ.pg a = some p) : σ.hd a = p.held := by unfold Sto.hd; rw [h]
theorem IP.rng2 {P : List Int} {a : Int} (h : IP Q σ D P) (ha : σ.pg a ≠ none) : 2 ≤ a ∧ a < 32768 := by
  cases h1 : σ.pg a with
  | none => exact absurd h1 ha
  | some q =>
    obtain ⟨i, j, hT, _⟩ := Q.give h.room (is_true h1)
    obtain ⟨_, e, h2, _, _, h3, h4, _, _⟩ := inRoom_some hT.1
    omega
/-- a tree is dropped, and what has no hold goes. -/
theorem IP.dropFail {new : List Int} {root : Int} (h : IP Q σ D []) (hz : ∀ a p, σ.pg a = some p → p.holds = 0 → a ∈ new) (hroot : 0 < σ.hd root) :
    ∃ σ2 σ' D', DropR σ root σ2 ∧ FailR σ2 new.reverse σ' ∧ IP Q σ' D' [] ∧ NoZero σ' ∧ (∀ b x, σ.nd b = some x → σ'.nd b = some x ∨ σ'.nd b = none) ∧
      (∀ b, σ'.hd b = σ.hd b - (if b = root then 1 else 0)) ∧ σ'.done = σ.done ∧ σ'.was = σ.was ∧ (∀ b, σ'.pg b ≠ none → σ.pg b ≠ none) := by
  obtain ⟨pr, k1, k2⟩ := pg_of_hd (σ := σ) (a := root) (by omega)
  obtain ⟨σ2, D2, m1, m2, m3, m4, m5, m6, m7, m8, m9, _⟩ := h.drop k1 (by omega)
  obtain ⟨σ', D', n1, n2, n3, n4⟩ := m2.fail new.reverse (fun a q hq hz0 => by
    obtain ⟨q1, e1, e2⟩ := m6 a q hq hz0
    rw [List.mem_reverse]
    exact hz a q1 e1 e2)
  refine ⟨σ2, σ', D', m1, n1, n2, n4, fun b x hx => ?_, fun b => by rw [n3.hd, m5], n3.done.trans m8, n3.was.trans m9, fun b hb => ?_⟩
  · rcases m3 b x hx with h1 | h1
    · exact n3.nd h1
    · right
      cases h2 : σ'.pg b with
      | none => exact nd_none.2 h2
      | some q =>
        obtain ⟨q0, e1, _⟩ := n3.same b q h2
        rw [nd_none.1 h1] at e1; cases e1
  · cases h2 : σ'.pg b with
    | none => exact absurd h2 hb
    | some q =>
      obtain ⟨q0, e1, _⟩ := n3.same b q h2
      exact m4 b (by rw [e1]; simp)
theorem Ext.zero {σ0 : Sto} {D0 new : List Int} (h0 : NoZero σ0) (hi : IP Q σ0 D0 []) (he : Ext σ0 σ new) : ∀ a p, σ.pg a = some p → p.holds = 0 → a ∈ new := by
  intro a p hp hz
  cases hb : σ0.pg a with
  | none => exact (he.fresh a p hp hb).1
  | some q =>
    obtain ⟨p', f1, _, _, f4⟩ := he.old a q hb
    rw [hp] at f1; cases f1
    have h3 := h0 a q hb
    have h4 := hi.nonneg hb
    omega
/-- the change is done: the new tree is held, the old one is not. -/
theorem IP.swapHold {new : List Int} {root to : Int} (h : IP Q σ D []) (hz : ∀ a p, σ.pg a = some p → p.holds = 0 → a ∈ new) (hto : σ.pg to ≠ none) (hhd : σ.hd to < 1000000) (hroot : 0 < σ.hd root) :
    ∃ σ1 σ2 σ' D', HoldR σ to σ1 ∧ DropR σ1 root σ2 ∧ FailR σ2 new.reverse σ' ∧ IP Q σ' D' [] ∧ NoZero σ' ∧ (∀ b x, σ.nd b = some x → σ'.nd b = some x ∨ σ'.nd b = none) ∧
      (∀ b, σ'.hd b = σ.hd b + (if b = to then 1 else 0) - (if b = root then 1 else 0)) ∧ σ'.done = σ.done ∧ σ'.was = σ.was ∧ (∀ b, σ'.pg b ≠ none → σ.pg b ≠ none) := by
  cases hp : σ.pg to with
  | none => exact absurd hp hto
  | some p =>
  obtain ⟨σ1, g1, g2, g3, g4, g5, g6, g7, _, _⟩ := h.hold hp (by rw [← hd_of_pg hp]; exact hhd)
  obtain ⟨σ2, σ', D', m1, m2, m3, m4, m5, m6, m7, m8, m9⟩ := g2.dropFail (new := new) (root := root) (fun a q hq hz0 => by
    obtain ⟨q0, e1, e2⟩ := g5 a q hq
    have hn := h.nonneg e1
    refine hz a q0 e1 ?_
    split at e2 <;> omega) (by rw [g4]; split <;> omega)
  refine ⟨σ1, σ2, σ', D', g1, m1, m2, m3, m4, fun b x hx => m5 b x (by rw [g3]; exact hx), fun b => by rw [m6, g4], m7.trans g6, m8.trans g7, fun b hb hn => m9 b hb ?_⟩
  rw [← nd_none, g3, nd_none]; exact hn
theorem nd_step {σ0 : Sto} (h1 : ∀ b x, σ0.nd b = some x → σ.nd b = some x) (h2 : ∀ b x, σ.nd b = some x → σ'.nd b = some x ∨ σ'.nd b = none) : ∀ b x, σ0.nd b = some x → σ'.nd b = some x ∨ σ'.nd b = none := fun b x hx => h2 b x (h1 b x hx)
theorem IP.run (hf : LeafF f pre key δ) (h : IP Q σ D []) (hz : NoZero σ) {root : Int} {n s c : Nat} {L : List Pr} (ht : T σ.nd n root L s c) (hL : RowOk L) (hp : pre L) (hroot : 0 < σ.hd root) (h6 : ∀ b, σ.hd b < 1000000) (hpot : s * 4 ^ n + c + δ ≤ 4 ^ 20) (hd : σ.done + 100 < 1000000000) :
    ∃ σ' r, RunR f pre key σ root σ' r ∧ σ'.done ≤ σ.done + 60 ∧ (match r with
      | none => σ'.pg = σ.pg ∧ IP Q σ' D [] ∧ σ'.was = σ.was
      | some to => Ran Q σ root σ' to (f L) (s * 4 ^ n + c + δ)) := by
  obtain ⟨l0, ha, _⟩ := ht.at
  obtain ⟨pr, hpr, hprn⟩ := pg_of_nd ha
  have hn20 : n ≤ 20 := by have := h.lv20 hpr; rw [hprn] at this; exact this
  have hroot0 : root ≠ 0 := by have := h.rng2 (a := root) (by rw [hpr]; simp); omega
  obtain ⟨σ1, D1, new, r, k1, k2, k3, k4, k5⟩ := h.down hf n (top := true) [] ht hL hp (by omega)
  rw [List.nil_append] at k1
  have hdone1 := k3.done
  cases r with
  | none =>
    obtain ⟨σ', D', m1, m2, m3, m4⟩ := k2.fail new.reverse (fun a p hp hz0 => List.mem_reverse.2 (k3.zero hz h a p hp hz0))
    obtain ⟨e1, e2⟩ := h.undone hz k3 m3 m2 m4
    exact ⟨σ', none, .fail k1 (by omega) m1, by rw [m3.done]; omega, e1, e2, m3.was.trans k3.was⟩
  | some bl =>
    obtain ⟨b1, b2, b3, _, b4⟩ := k5 bl rfl
    obtain ⟨m, u', hm, hts, hb2, hb1⟩ := b4 rfl
    have hrow : RowOk (f L) := ⟨hf.srt L hL.1, hf.ok L hL.2⟩
    match bl, b1, b2, b3, hts, hb2, hb1 with
    | [], b1, b2, b3, hts, hb2, hb1 =>
      obtain ⟨σ2, σ', D', m1, m2, m3, m4, m5, m6, m7, m8, _⟩ := k2.dropFail (new := new) (root := root) (k3.zero hz h) (by rw [k3.hd]; exact hroot)
      refine ⟨σ', some 0, .go k1 (by omega) (by simp) (by simp) (.none hroot0 m1) m2, by rw [m7]; omega, ⟨D', m3⟩, m4, nd_step (fun b x => k3.nd) m5, fun b => by rw [m6, k3.hd]; simp, m8.trans k3.was, .inl ⟨rfl, b3.1 rfl⟩⟩
    | [x], b1, b2, b3, hts, hb2, hb1 =>
      obtain ⟨s', c', t1, t2⟩ := hb1 x rfl
      obtain ⟨hx2, hx3⟩ := b2 x (by simp)
      obtain ⟨lx, hax, _⟩ := t1.at
      obtain ⟨px, hpx, _⟩ := pg_of_nd hax
      obtain ⟨σ2, σ3, σ', D', m0, m1, m2, m3, m4, m5, m6, m7, m8, _⟩ := k2.swapHold (new := new) (root := root) (to := x.2) (k3.zero hz h) (by rw [hpx]; simp) (by rw [k3.hd]; exact h6 _) (by rw [k3.hd]; exact hroot)
      have hst : ∀ b, σ'.hd b = σ.hd b + (if b = x.2 ∧ x.2 ≠ 0 then 1 else 0) - (if b = root then 1 else 0) := fun b => by
        rw [m6, k3.hd]
        have : x.2 ≠ 0 := by omega
        simp [this]
      have hin : σ'.pg x.2 ≠ none := by
        intro hn
        have h1 := hst x.2
        have h2 : σ'.hd x.2 = 0 := by unfold Sto.hd; rw [hn]
        have h3 : 0 ≤ σ.hd x.2 := by
          unfold Sto.hd
          cases h4 : σ.pg x.2 with
          | none => simp
          | some q => exact (h.held _ q h4).1
        have h5 : x.2 ≠ 0 := by omega
        rw [h2] at h1
        simp only [h5, ne_eq, not_false_eq_true, and_self, if_true] at h1
        split at h1
        · rename_i e; rw [e] at h1; omega
        · omega
      exact ⟨σ', some x.2, .go k1 (by omega) (by simp) (by simp) (.one hroot0 m0 m1) m2, by rw [m7]; omega, ⟨D', m3⟩, m4, nd_step (fun b x => k3.nd) m5, hst, m8.trans k3.was, .inr ⟨hx2, hx3, m, s', c', m3.tree_stays m5 t1 hin, t2⟩⟩
    | [x, y], b1, b2, b3, hts, hb2, hb1 =>
      obtain ⟨rfl, hbound⟩ := hb2 rfl
      obtain ⟨L1, L2, s1, c1, v1, t1, t2, t3, e1, e2⟩ := Ts.uncons (k := x.1) (v := x.2) hts
      obtain ⟨lx, hax, _⟩ := t1.at
      obtain ⟨px, hpx, hpxn⟩ := pg_of_nd hax
      have hlv : px.n.lv = m := by rw [hpxn]
      have hm19 : m + 1 ≤ 20 := by
        apply Classical.byContradiction
        intro hc
        have : 4 ^ 20 ≤ 4 ^ (m + 1) := Nat.pow_le_pow_right (by omega) (by omega)
        have hpos : 0 < 4 ^ 20 := by decide
        omega
      have hrxy : RowOk [x, y] := ⟨hts.srt hrow.1, fun e he => by
        have := hts.keys hrow.2 e he
        have := b2 e he
        exact ⟨by omega, by omega, by omega, by omega⟩⟩
      obtain ⟨σ2, D2, new2, r2, q1, q2, q3, q4, q5⟩ := k2.cut (lv := m + 1) (l := [x, y]) (L := f L) (u := u') new RowT.up hts hrxy hm19 (by simp) (by omega)
      have hcut : cutN (m + 1) [x, y] = [⟨px.n.lv + 1, [x, y]⟩] := by rw [hlv]; rfl
      rw [hcut] at q1
      have he := k3.trans q3
      cases r2 with
      | none =>
        obtain ⟨σ', D', m1, m2, m3, m4⟩ := q2.fail (new ++ new2).reverse (fun a p hp hz0 => List.mem_reverse.2 (he.zero hz h a p hp hz0))
        obtain ⟨e1, e2⟩ := h.undone hz he m3 m2 m4
        exact ⟨σ', none, .go k1 (by omega) (by simp) (fun _ => hrxy) (.fail hpx (by omega) q1) m1, by rw [m3.done, he.done]; simp; omega, e1, e2, m3.was.trans he.was⟩
      | some bl2 =>
        obtain ⟨u2, g1, g2, g3, _, g5, _⟩ := q5 bl2 rfl
        obtain ⟨g6, g7, g8⟩ := g5 (by simp) (by simp)
        match bl2, g6, g1, g3, g8, q1 with
        | [z], g6, g1, g3, g8, q1 =>
          have t1 := g8 z rfl
          obtain ⟨hx2, hx3⟩ := g3 z (by simp)
          obtain ⟨lx, hax, _⟩ := t1.at
          obtain ⟨pz, hpz, _⟩ := pg_of_nd hax
          obtain ⟨σ3, σ4, σ', D', m0, m1, m2, m3, m4, m5, m6, m7, m8, _⟩ := q2.swapHold (new := new ++ new2) (root := root) (to := z.2) (he.zero hz h) (by rw [hpz]; simp) (by rw [he.hd]; exact h6 _) (by rw [he.hd]; exact hroot)
          have hst : ∀ b, σ'.hd b = σ.hd b + (if b = z.2 ∧ z.2 ≠ 0 then 1 else 0) - (if b = root then 1 else 0) := fun b => by
            rw [m6, he.hd]
            have : z.2 ≠ 0 := by omega
            simp [this]
          have hin : σ'.pg z.2 ≠ none := by
            intro hn
            have h1 := hst z.2
            have h2 : σ'.hd z.2 = 0 := by unfold Sto.hd; rw [hn]
            have h3 : 0 ≤ σ.hd z.2 := by
              unfold Sto.hd
              cases h4 : σ.pg z.2 with
              | none => simp
              | some q => exact (h.held _ q h4).1
            have h5 : z.2 ≠ 0 := by omega
            rw [h2] at h1
            simp only [h5, ne_eq, not_false_eq_true, and_self, if_true] at h1
            split at h1
            · rename_i e; rw [e] at h1; omega
            · omega
          refine ⟨σ', some z.2, .go k1 (by omega) (by simp) (fun _ => hrxy) (.two hpx (by omega) q1 (.one hroot0 m0 m1)) m2, by rw [m7, he.done]; simp; omega, ⟨D', m3⟩, m4, nd_step (fun b x => he.nd) m5, hst, m8.trans he.was, .inr ⟨hx2, hx3, m + 1, _, _, m3.tree_stays m5 t1 hin, ?_⟩⟩
          simpa using hbound
end
end Go.Proofs.YtemenmmekddjaaaGreatDoor
end
section
namespace Go.Proofs.YtemenmmekddjaaaGreatDoor
theorem filter_all {p : Pr → Bool} {l : List Pr} (h : ∀ e ∈ l, p e = true) : l.filter p = l := List.filter_eq_self.2 h
theorem filter_none {p : Pr → Bool} {l : List Pr} (h : ∀ e ∈ l, p e = false) : l.filter p = [] := List.filter_eq_nil_iff.2 fun e he => by rw [h e he]; simp
theorem two_filters {p q : Pr → Bool} : ∀ {l : List Pr}, (∀ e ∈ l, p e = true → q e = false) → (l.filter p).length + (l.filter q).length ≤ l.length
  | [], _ => by simp
  | e :: l, h => by
    have ih := two_filters (l := l) (p := p) (q := q) fun x hx => h x (by simp [hx])
    have he := h e (by simp)
    simp only [List.filter_cons, List.length_cons]
    cases hp : p e with
    | true => rw [he hp]; simp; omega
    | false => cases q e <;> simp <;> omega
theorem setF {key val : Int} (hk : PrOk (key, val)) : LeafF (setL key val) (fun _ => True) key 1 where
  loc A l B hs hA hB := by
    unfold setL
    rw [List.filter_append, List.filter_append, List.filter_append, List.filter_append, filter_all (l := A) (fun e he => by simpa using hA e he), filter_none (l := B) (fun e he => by have := hB e he; simp; omega), filter_none (l := A) (fun e he => by have := hA e he; simp; omega), filter_all (l := B) (fun e he => by simpa using hB e he)]
    simp
  srt l hs := by
    unfold setL
    refine List.pairwise_append.2 ⟨hs.filter _, List.pairwise_cons.2 ⟨fun e he => ?_, hs.filter _⟩, fun a ha b hb => ?_⟩
    · have := (List.mem_filter.1 he).2; simpa using this
    · have h1 := (List.mem_filter.1 ha).2
      simp at h1
      rcases List.mem_cons.1 hb with rfl | hb
      · exact h1
      · have h2 := (List.mem_filter.1 hb).2
        simp at h2; omega
  ok l h e he := by
    unfold setL at he
    rcases List.mem_append.1 he with he | he
    · exact h e (List.mem_filter.1 he).1
    · rcases List.mem_cons.1 he with rfl | he
      · exact hk
      · exact h e (List.mem_filter.1 he).1
  len l hs := by
    unfold setL
    rw [List.length_append, List.length_cons]
    have h2 : (l.filter fun e => decide (e.1 < key)).length + (l.filter fun e => decide (key < e.1)).length ≤ l.length := two_filters fun e _ h => by simp at h ⊢; omega
    rw [← Nat.add_assoc]; exact Nat.succ_le_succ h2
  pre _ _ _ _ _ _ h := h
  one := Nat.le_refl _
theorem delF {key : Int} : LeafF (delL key) (fun l => ∃ e ∈ l, e.1 = key) key 0 where
  loc A l B hs hA hB := by
    unfold delL
    rw [List.filter_append, List.filter_append, filter_all (l := A) (fun e he => by have := hA e he; simp; omega), filter_all (l := B) (fun e he => by have := hB e he; simp; omega)]
  srt l hs := hs.filter _
  ok l h e he := h e (List.mem_filter.1 he).1
  len l hs := List.length_filter_le _ _
  pre A l B hs hA hB h := by
    obtain ⟨e, he, hk⟩ := h
    rcases List.mem_append.1 he with he | he
    · rcases List.mem_append.1 he with he | he
      · have := hA e he; omega
      · exact ⟨e, he, hk⟩
    · have := hB e he; omega
  one := by omega
/-- is there a page at a sector of the device with the number i, that is so large? -/
def pgAt (P : Int → Bool) (i n : Nat) : Nat → Bool := fun j => decide (2 ≤ j ∧ j < n) && P ((i * 4096 + j : Nat) : Int)
/-- the devices of a room in which nothing lies but pages, and nothing was settled. -/
def laid1 (P : Int → Bool) (i : Nat) (e : Int × Nat) : Dev := ⟨e.1, e.2, pgAt P i e.2, pgAt P i e.2, fun _ => false⟩
def laid (base : List (Int × Nat)) (P : Int → Bool) : List Dev := base.mapIdx (laid1 P)
theorem laid_at {base : List (Int × Nat)} {P : Int → Bool} {i : Nat} : (laid base P)[i]? = (base[i]?).map (laid1 P i) := by
  unfold laid; rw [List.getElem?_mapIdx]
theorem laid_len {base : List (Int × Nat)} {P : Int → Bool} : (laid base P).length = base.length := by unfold laid; simp
theorem give_fresh {d : Dev} {j : Nat} (h : d.fr j = true) : d.give false j = ⟨d.state, d.size, off d.tk j, off d.fr j, d.gv⟩ := by
  unfold Dev.give; rw [h]; rfl
theorem pgAt_off {P : Int → Bool} {i n j : Nat} (hn : n ≤ 4096) : off (pgAt P i n) j = pgAt (fun b => if b = ((i * 4096 + j : Nat) : Int) then false else P b) i n := by
  funext x
  unfold off pgAt
  by_cases hx : x = j
  · subst hx; simp
  · dsimp only; rw [if_neg (by omega)]; simp [hx]
theorem pgAt_on {P : Int → Bool} {i n j : Nat} (hj : 2 ≤ j ∧ j < n) : on (pgAt P i n) j = pgAt (fun b => if b = ((i * 4096 + j : Nat) : Int) then true else P b) i n := by
  funext x
  unfold on pgAt
  by_cases hx : x = j
  · subst hx; simp [hj]
  · dsimp only; rw [if_neg (by omega)]; simp [hx]
theorem pgAt_other {P P' : Int → Bool} {i m n j : Nat} (hn : n ≤ 4096) (hj : j < 4096) (hm : i ≠ m) (hP : ∀ b, b ≠ ((i * 4096 + j : Nat) : Int) → P' b = P b) : pgAt P' m n = pgAt P m n := by
  funext x
  unfold pgAt
  by_cases hx : 2 ≤ x ∧ x < n
  · rw [hP _ (by omega)]
  · rw [decide_eq_false hx]; rfl
theorem bitsIn_false (n : Nat) : bitsIn n (fun _ => false) = 0 := by unfold bitsIn; simp
/-- what the pages are, among these devices. -/
def Within (base : List (Int × Nat)) (P : Int → Bool) : Prop := ∀ a, P a = true → ∃ i j : Nat, a = ((i * 4096 + j : Nat) : Int) ∧ 2 ≤ j ∧ ∃ e, base[i]? = some e ∧ j < e.2
structure BaseOk (base : List (Int × Nat)) : Prop where
  len : base.length ≤ 8
  ent : ∀ e ∈ base, e.1 ≠ 3 ∧ e.2 ≤ 4096
theorem laid_in {base : List (Int × Nat)} {P : Int → Bool} {i j : Nat} {e : Int × Nat} (h : BaseOk base) (he : base[i]? = some e) (hj : 2 ≤ j) (hje : j < e.2) : inRoom (laid base P) ((i * 4096 + j : Nat) : Int) = some (i, j) := by
  obtain ⟨hi, rfl⟩ := List.getElem?_eq_some_iff.1 he
  have hb := h.ent _ (List.getElem_mem hi)
  have h8 := h.len
  unfold inRoom atOf
  have e1 : ((i * 4096 + j : Nat) : Int) / 4096 = i := by omega
  have e2 : ((i * 4096 + j : Nat) : Int) % 4096 = j := by omega
  rw [if_pos (show 0 ≤ ((i * 4096 + j : Nat) : Int) ∧ ((i * 4096 + j : Nat) : Int) < 32768 by omega)]
  dsimp only
  rw [e1, e2, if_pos (by omega), Int.toNat_natCast, laid_at, he]
  dsimp only [Option.map_some, laid1]
  rw [if_pos ⟨hb.1, by omega, by omega⟩]
  rfl
/-- a room of which these are all the devices, all of them there, and nothing was begun. -/
def roomOf (base : List (Int × Nat)) (h : BaseOk base) : RoomI where
  I P ds was := was = none ∧ ds = laid base P ∧ Within base P
  lim := by
    rintro P ds was ⟨_, rfl, _⟩ d hd
    obtain ⟨i, hi, rfl⟩ := List.getElem_of_mem hd
    have h2 := List.getElem?_eq_getElem hi
    rw [laid_at] at h2
    cases h3 : base[i]? with
    | none => rw [h3] at h2; cases h2
    | some e =>
      rw [h3] at h2
      simp only [Option.map_some, Option.some.injEq] at h2
      rw [← h2]; exact (h.ent e (List.mem_of_getElem? h3)).2
  give := by
    rintro P ds was a ⟨rfl, rfl, hP⟩ ha
    obtain ⟨i, j, rfl, hj, e, he, hje⟩ := hP _ ha
    obtain ⟨hi, rfl⟩ := List.getElem?_eq_some_iff.1 he
    have hb := h.ent _ (List.getElem_mem hi)
    have hd := laid_at (base := base) (P := P) (i := i)
    rw [he, Option.map_some] at hd
    have hpg : pgAt P i base[i].2 j = true := by unfold pgAt; rw [ha, decide_eq_true ⟨hj, hje⟩]; rfl
    refine ⟨i, j, ⟨laid_in h he hj hje, _, hd, hpg⟩, rfl, ?_, fun b hb => ?_⟩
    · unfold giveAt
      rw [hd]
      dsimp only
      rw [show elderAt none i j = false from rfl, give_fresh hpg]
      apply List.ext_getElem?
      intro m
      rw [laid_at, List.getElem?_set, laid_len]
      split
      · rename_i e; subst e
        rw [he]
        dsimp only [Option.map_some, laid1]
        rw [pgAt_off hb.2]
      · rename_i hm
        rw [laid_at]
        cases hbm : base[m]? with
        | none => rfl
        | some em =>
          have h41 := (h.ent em (List.mem_of_getElem? hbm)).2
          dsimp only [Option.map_some, laid1]
          rw [pgAt_other (P' := fun b => if b = ((i * 4096 + j : Nat) : Int) then false else P b) (i := i) (j := j) h41 (by omega) hm fun b hb => if_neg hb]
    · dsimp only at hb
      split at hb
      · cases hb
      · exact hP b hb
  take := by
    rintro P ds was i q ⟨rfl, rfl, hP⟩ ⟨_, _, d, hd, hst, hq2, hqn, hfree, _⟩
    rw [laid_at] at hd
    cases he : base[i]? with
    | none => rw [he] at hd; cases hd
    | some e =>
      obtain ⟨hi, _⟩ := List.getElem?_eq_some_iff.1 he
      have hb := h.ent e (List.mem_of_getElem? he)
      rw [he, Option.map_some] at hd
      simp only [Option.some.injEq] at hd
      subst hd
      have hqn : q < e.2 := hqn
      have h8 := h.len
      have hp : P ((i * 4096 + q : Nat) : Int) = false := by
        simp only [laid1, pgAt, Bool.and_eq_true, Bool.not_eq_true', Bool.and_eq_false_iff] at hfree
        rcases hfree.1 with h1 | h1
        · rw [decide_eq_true ⟨hq2, hqn⟩] at h1; cases h1
        · exact h1
      refine ⟨by omega, hq2, by omega, hp, rfl, ?_, fun b hb => ?_⟩
      · unfold takeAt
        rw [laid_at, he]
        dsimp only [Option.map_some]
        apply List.ext_getElem?
        intro m
        rw [laid_at, List.getElem?_set, laid_len]
        split
        · rename_i e; subst e
          rw [he]
          dsimp only [Option.map_some, laid1, Dev.take]
          rw [pgAt_on ⟨hq2, hqn⟩]
        · rename_i hm
          rw [laid_at]
          cases hbm : base[m]? with
          | none => rfl
          | some em =>
            have h41 := (h.ent em (List.mem_of_getElem? hbm)).2
            dsimp only [Option.map_some, laid1]
            rw [pgAt_other (P' := fun b => if b = ((i * 4096 + q : Nat) : Int) then true else P b) (i := i) (j := q) h41 (by omega) hm fun b hb => if_neg hb]
      · dsimp only at hb
        split at hb
        · rename_i e1; exact ⟨i, q, e1, hq2, e, he, hqn⟩
        · exact hP b hb
end Go.Proofs.YtemenmmekddjaaaGreatDoor
end
