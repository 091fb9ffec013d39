/- What the law's make of a store does. No condition. -/
import Derived.Test.YtemenmmekddjaaaGreatDoorJ35
set_option linter.all false
set_option linter.unusedVariables false
set_option linter.unusedSimpArgs false
set_option linter.unnecessarySimpa false
set_option linter.unusedSectionVars false
set_option linter.constructorNameAsVariable false
namespace Go.Proofs.YtemenmmekddjaaaGreatDoor
open Go Go.Wx Go.W
variable {ω : Go.W.Origin}
def baseOf (ns : List Nat) : List (Int × Nat) := ns.map fun n => ((1 : Int), n)
theorem baseOk {ns : List Nat} (h8 : ns.length ≤ 8) (h3 : ∀ n ∈ ns, 3 ≤ n ∧ n ≤ 4096) : BaseOk (baseOf ns) where
  len := by unfold baseOf; simpa using h8
  ent e he := by
    obtain ⟨n, hn, rfl⟩ := List.mem_map.1 he
    exact ⟨by simp, (h3 n hn).2⟩
def entsOf (ns : List Nat) : List Ent := ns.map fun n : Nat => ((1 : Int), (n : Int))
theorem turned_base (ns : List Nat) : turned [] (entsOf ns) = laid (baseOf ns) (fun _ => false) := by
  apply List.ext_getElem?
  intro i
  rw [laid_at]
  unfold turned baseOf entsOf
  rw [List.getElem?_map, List.getElem?_map]
  by_cases hi : i < ns.length
  · rw [List.getElem?_range (by simpa using hi), List.getElem?_eq_getElem hi]
    simp [turned1, laid1, hi]
    funext j
    simp [pgAt]
  · rw [List.getElem?_eq_none (by simpa using hi), List.getElem?_eq_none (by simpa using hi)]
    rfl
theorem ents_ok {ns : List Nat} (h8 : ns.length ≤ 8) (h3 : ∀ n ∈ ns, 3 ≤ n ∧ n ≤ 4096) : rosOk (entsOf ns) = true := by
  unfold rosOk entsOf
  rw [Bool.and_eq_true, List.all_eq_true]
  refine ⟨by simpa using h8, fun e he => ?_⟩
  obtain ⟨n, hn, rfl⟩ := List.mem_map.1 he
  have := h3 n hn
  unfold entOk
  simp; omega
def banksOf (ns : List Nat) : List (List Sec) := ns.map fun n => List.replicate n zeroSec
section
variable {G H A R Hb Hc Hv P Rb HL : List Blk} {w : World} {k : K}
theorem law_made {ns : List Nat} {v : Value} (hs : Sat G w H) (hr : Rd 1 v (ns.map fun n : Nat => int n) (G ++ H)) (h8 : ns.length ≤ 8) (h3 : ∀ n ∈ ns, 3 ≤ n ∧ n ≤ 4096)
    (hk : ∀ bt b bb sb Hb Hv w', WldR (Hv ++ G) b bb sb ⟨fun _ => none, laid (baseOf ns) (fun _ => false), none, banksOf ns, 0⟩ (.map none) [] Hb → Sat (Hv ++ G) w' ((bt, row 33 (tcells sb b (fun _ => 0) (fun _ => .slice none 0 0))) :: (Hb ++ H)) → k (ptr bt) w') : call Tryz.prog w 11 [v] k := by
  refine b_portagelaw12_made_walk ?_
  unfold b_portagelaw12_made
  refine bank_New hs fun bb Hk w hbk hs => ?_
  refine eq_pn (Br_f ?_)
  refine new_r (cs := [.slice none 0 0]) hs fun b4 w hs => ?_
  refine (hr.mono (H' := (G ++ ((b4, row 66 [.slice none 0 0]) :: (Hk ++ H)))) fun q hq => by rcases List.mem_append.1 hq with h | h <;> simp [h]).len ns.length (by simp) (by decide) ?_
  refine loop_r (fun cc vs w => ∃ (i : Nat) (v' : Value) (Hr Hk : List Blk), i ≤ ns.length ∧ vs = [int i] ∧ cc = ns.length - i ∧ W.Own 95 2 v' ((entsOf (ns.take i)).flatMap ent) Hr ∧ BnkR bb (banksOf (ns.take i)) 0 Hk ∧ Sat G w ((b4, row 66 [v']) :: (Hr ++ (Hk ++ H)))) ns.length ⟨0, _, [], Hk, by omega, rfl, rfl, .nil, hbk, hs⟩ ?_
  clear hs hbk
  rintro J cc vs w next ⟨i, v', Hr, Hk, hi, rfl, rfl, ho, hbk, hs⟩ hnext
  refine bin_lss (Br_d (fun hc => ?_) (fun hc => ?_))
  · have hi' : i < ns.length := by
      have : (i : Int) < ns.length := hc
      omega
    have htk : ns.take (i + 1) = ns.take i ++ [ns[i]] := by rw [List.take_add_one, List.getElem?_eq_getElem hi']; rfl
    have h3i := h3 _ (List.getElem_mem hi')
    refine (hr.mono (H' := (G ++ ((b4, row 66 [v']) :: (Hr ++ (Hk ++ H))))) fun q hq => by rcases List.mem_append.1 hq with h | h <;> simp [h]).ld1 hs.whole hi' ?_
    refine bank_Add (R := (b4, row 66 [v']) :: (Hr ++ H)) hs hbk (.cons (.app .here)) (by unfold banksOf; simp; omega) (by omega) (by omega) fun Hk2 w hbk2 hs => ?_
    have hs := hs.perm (H' := (b4, row 66 [v']) :: (Hr ++ (Hk2 ++ H))) (by refine perm_of_cnt fun a => ?_; simp only [cnt_app, cnt_cons, cnt_nil] at *; omega)
    refine add_r (ld_r hs (.head _) rfl ?_)
    refine bld_r (zero := [int 0, int 0]) (cs := ent (1, (ns[i] : Int))) rfl ?_
    have hel : ((entsOf (ns.take i)).flatMap ent).length = i * 2 := by
      rw [flat_len (size := 2) fun _ _ => rfl]; unfold entsOf; simp; omega
    refine appA_r (cs := ent (1, (ns[i] : Int))) hs ho (.cons .here) rfl rfl (by simp [Value.oneCell']) (by decide) (by decide) (by decide) (by rw [hel]; omega) fun v2 Hr2 w ho2 hs => ?_
    refine add_r (st_r (hs.perm (H' := (b4, row 66 [v']) :: (Hr2 ++ (Hk2 ++ H))) (by refine perm_of_cnt fun a => ?_; simp only [cnt_app, cnt_cons, cnt_nil] at *; omega)) .head (by simp) ho2.one fun w hs => ?_)
    refine bin_add (by omega) (by omega) (hnext (ns.length - (i + 1)) _ _ (by omega) ⟨i + 1, v2, Hr2, Hk2, by omega, rfl, rfl, ?_, ?_, hs⟩)
    · have : (entsOf (ns.take i)).flatMap ent ++ ent (1, (ns[i] : Int)) = (entsOf (ns.take (i + 1))).flatMap ent := by
        rw [htk]; unfold entsOf
        rw [List.map_append, List.flatMap_append]; rfl
      rw [← this]; exact ho2
    · have : banksOf (ns.take i) ++ [List.replicate ns[i] zeroSec] = banksOf (ns.take (i + 1)) := by
        rw [htk]; unfold banksOf
        rw [List.map_append]; rfl
      rw [← this]; exact hbk2
  · have hi' : i = ns.length := by
      have : ¬ (i : Int) < ns.length := hc
      omega
    subst hi'
    rw [List.take_length] at ho hbk
    refine ldN_r (vs := [v']) hs (.head _) rfl rfl ?_
    refine space_New hs (ho.rd fun q hq => by simp [hq]) (ents_ok h8 h3) (fun e he => by obtain ⟨n, _, rfl⟩ := List.mem_map.1 he; simp) fun sb Hv Hp w hsp hs => ?_
    rw [turned_base] at hsp
    refine tup_r rfl (tup_r rfl (eq_pn (Br_f (eq_nn (Br_f ?_)))))
    refine pages_New (R := (b4, row 66 [v']) :: (Hr ++ H)) (hs.perm (H' := (Hp ++ Hk) ++ ((b4, row 66 [v']) :: (Hr ++ H))) (by refine perm_of_cnt fun a => ?_; simp only [cnt_app, cnt_cons, cnt_nil] at *; omega)) hsp hbk .here ⟨by rw [laid_len]; unfold baseOf banksOf; simp, fun i h1 h2 => ?_⟩ fun b Hb w hW hs => ?_
    · have h4 : (laid (baseOf ns) fun _ => false)[i]? = some (laid (baseOf ns) fun _ => false)[i] := List.getElem?_eq_getElem h1
      rw [laid_at] at h4
      have hin : i < ns.length := by
        rw [laid_len] at h1; unfold baseOf at h1; simpa using h1
      rw [show (baseOf ns)[i]? = some (1, ns[i]) by unfold baseOf; simp [hin]] at h4
      simp only [Option.map_some, Option.some.injEq] at h4
      rw [← h4]
      have h5 : (banksOf ns)[i]? = some (List.replicate ns[i] zeroSec) := by unfold banksOf; simp [hin]
      rw [List.getElem?_eq_getElem h2] at h5
      rw [Option.some.inj h5, List.length_replicate]
      exact Nat.le_refl _
    refine bld_r (zero := [.pointer none, .pointer none, int 0, int 0, int 0, int 0, .slice none 0 0, .slice none 0 0, .slice none 0 0, .slice none 0 0]) (cs := tcells sb b (fun _ => 0) (fun _ => .slice none 0 0)) rfl ?_
    refine boxA_r (cs := tcells sb b (fun _ => 0) (fun _ => .slice none 0 0)) hs fun bt w hs => ?_
    exact hk bt b bb sb Hb Hv w hW ((hs.perm (H' := ((b4, row 66 [v']) :: Hr) ++ ((bt, row 33 (tcells sb b (fun _ => 0) (fun _ => .slice none 0 0))) :: (Hb ++ H))) (by refine perm_of_cnt fun a => ?_; simp only [cnt_app, cnt_cons, cnt_nil] at *; omega)).drop)
theorem top0 {ns : List Nat} {bk : List (List Sec)} (hb : BaseOk (baseOf ns)) : Top (roomOf (baseOf ns) hb) ⟨fun _ => none, laid (baseOf ns) (fun _ => false), none, bk, 0⟩ [] (fun _ => 0) (fun _ => []) 0 where
  ip := {
    nodup := .nil
    mem := fun a => by simp
    ok := fun a p h => by cases h
    kid := fun a p h => by cases h
    cnt := fun a p h => by cases h
    held := fun a p h => by cases h
    pend := fun a h => by cases h
    room := ⟨rfl, by simp [Sto.is]; rfl, fun a h => by simp [Sto.is] at h⟩ }
  nz a p h := by cases h
  hd a := by
    show (0 : Int) = _
    split
    · rfl
    · rename_i h
      unfold cnt4 one4
      simp [Ne.symm h]
  row i hi := .inl ⟨rfl, rfl⟩
  ok i hi := ⟨.nil, by simp⟩
  len i hi := by simp
end
end Go.Proofs.YtemenmmekddjaaaGreatDoor
