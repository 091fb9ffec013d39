/- Owned memory as a list of blocks; how each operation works on it. No condition. Owned slices and maps. No condition. Maps with whole numbers for keys; literals of slices; copies. No condition. -/
import Derived.Test.YtemenmmekddjaaaGreatDoorJ02
set_option linter.all false
set_option linter.unusedVariables false
set_option linter.unusedSimpArgs false
set_option linter.unnecessarySimpa false
set_option linter.unusedSectionVars false
set_option linter.constructorNameAsVariable false
section
namespace Go.W
open Go Go.Wx
abbrev Blk := Nat × Obj
/-- a block of cells that may be written. -/
@[reducible] def row (T : TypeId) (cs : List Value) : Obj := .cells cs.toArray T
/-- the address of a cell. -/
@[reducible] def at_ (b o : Nat) : Value := .pointer (some ⟨b, o, none⟩)
@[reducible] def ptr (b : Nat) : Value := .pointer (some ⟨b, 0, none⟩)
@[reducible] def int (n : Int) : Value := .int .i64 n
/-- the world in which all began. -/
class Origin where
  W : World
/-- in the world w each block of G and H is there, and no two of them are one. G: what nobody writes. -/
structure Sat [Origin] (G : List Blk) (w : World) (H : List Blk) : Prop where
  nodup : ((G ++ H).map Prod.fst).Nodup
  here : ∀ p ∈ G ++ H, w.heap[p.1]? = some p.2
  kept : w.os = Origin.W.os ∧ w.output = Origin.W.output
section
variable {ω : Go.W.Origin}
variable {G : List Blk} {w : World} {H H' R R' : List Blk}
theorem Sat.get (hs : Sat G w H) {b : Nat} {o : Obj} (hm : (b, o) ∈ H) : w.heap[b]? = some o := hs.here _ (List.mem_append.2 (.inr hm))
theorem Sat.getG (hs : Sat G w H) {b : Nat} {o : Obj} (hm : (b, o) ∈ G) : w.heap[b]? = some o := hs.here _ (List.mem_append.2 (.inl hm))
theorem Sat.perm (hs : Sat G w H) (hp : H.Perm H') : Sat G w H' where
  nodup := ((List.Perm.append_left G hp).map Prod.fst).nodup_iff.1 hs.nodup
  here p hm := hs.here p ((List.Perm.append_left G hp).mem_iff.2 hm)
  kept := hs.kept
theorem Sat.drop (hs : Sat G w (R ++ H)) : Sat G w H where
  nodup := by
    have h := hs.nodup
    simp only [List.map_append, List.nodup_append, List.mem_append] at h ⊢
    exact ⟨h.1, h.2.1.2.1, fun a ha b hb => h.2.2 a ha b (.inr hb)⟩
  here p hm := hs.here p (by
    rcases List.mem_append.1 hm with h | h
    · exact List.mem_append.2 (.inl h)
    · exact List.mem_append.2 (.inr (List.mem_append.2 (.inr h))))
  kept := hs.kept
theorem Sat.keep (hs : Sat G w (H ++ R)) : Sat G w H := (hs.perm List.perm_append_comm).drop
theorem Sat.tail {x : Blk} (hs : Sat G w (x :: H)) : Sat G w H := Sat.drop (R := [x]) hs
theorem Sat.lt (hs : Sat G w H) {p : Blk} (hm : p ∈ G ++ H) : p.1 < w.heap.size := (Array.getElem?_eq_some_iff.1 (hs.here p hm)).1
theorem Sat.of_heap {w' : World} (hs : Sat G w H) (hh : w'.heap = w.heap) (ho : w'.os = w.os ∧ w'.output = w.output := by exact ⟨rfl, rfl⟩) : Sat G w' H := ⟨hs.nodup, fun p hm => by rw [hh]; exact hs.here p hm, ho.1.trans hs.kept.1, ho.2.trans hs.kept.2⟩
theorem Sat.alloc (hs : Sat G w H) (o : Obj) : Sat G (w.alloc o) ((w.heap.size, o) :: H) := by
  have hp : (G ++ (w.heap.size, o) :: H).Perm ((w.heap.size, o) :: (G ++ H)) := List.perm_middle
  refine ⟨(hp.map Prod.fst).nodup_iff.2 ?_, fun p hm => ?_, hs.kept⟩
  · rw [List.map_cons, List.nodup_cons]
    refine ⟨fun hm => ?_, hs.nodup⟩
    obtain ⟨p, hp, he⟩ := List.mem_map.1 hm
    have := hs.lt hp
    omega
  · rcases List.mem_cons.1 (hp.mem_iff.1 hm) with rfl | hm
    · show (w.heap.push o)[w.heap.size]? = some o
      simp
    · have := hs.lt hm
      show (w.heap.push o)[p.1]? = some p.2
      simp only [Array.getElem?_push]
      rw [if_neg (by omega)]
      exact hs.here p hm
/-- one block of a list is another one. -/
inductive Upd (b : Nat) (o o' : Obj) : List Blk → List Blk → Prop
  | head {R : List Blk} : Upd b o o' ((b, o) :: R) ((b, o') :: R)
  | cons {x : Blk} {R R' : List Blk} : Upd b o o' R R' → Upd b o o' (x :: R) (x :: R')
  | app {X R R' : List Blk} : Upd b o o' R R' → Upd b o o' (X ++ R) (X ++ R')
theorem Upd.perm {b : Nat} {o o' : Obj} (h : Upd b o o' H H') : ∃ R, H.Perm ((b, o) :: R) ∧ H'.Perm ((b, o') :: R) := by
  induction h with
  | head => exact ⟨_, .refl _, .refl _⟩
  | cons _ ih =>
    obtain ⟨R, h1, h2⟩ := ih
    exact ⟨_, (h1.cons _).trans (.swap _ _ _), (h2.cons _).trans (.swap _ _ _)⟩
  | @app X _ _ _ ih =>
    obtain ⟨R, h1, h2⟩ := ih
    exact ⟨X ++ R, (h1.append_left X).trans List.perm_middle, (h2.append_left X).trans List.perm_middle⟩
theorem Upd.mem {b : Nat} {o o' : Obj} (h : Upd b o o' H H') : (b, o) ∈ H := by
  obtain ⟨R, h1, _⟩ := h.perm
  exact h1.mem_iff.2 (.head _)
theorem Sat.set {b : Nat} {o o' : Obj} (hs : Sat G w H) (hu : Upd b o o' H H') : Sat G (Wx.World.setObj w b o') H' := by
  obtain ⟨R, h1, h2⟩ := hu.perm
  have hs1 := hs.perm h1
  refine Sat.perm ?_ h2.symm
  have hb : b < w.heap.size := hs1.lt (p := (b, o)) (by simp)
  refine ⟨by simpa using hs1.nodup, fun p hm => ?_, hs1.kept⟩
  have hp : (G ++ (b, o') :: R).Perm ((b, o') :: (G ++ R)) := List.perm_middle
  have hp1 : (G ++ (b, o) :: R).Perm ((b, o) :: (G ++ R)) := List.perm_middle
  have hnd := (hp1.map Prod.fst).nodup_iff.1 hs1.nodup
  rw [List.map_cons, List.nodup_cons] at hnd
  rcases List.mem_cons.1 (hp.mem_iff.1 hm) with rfl | hm
  · simp [Wx.World.setObj, hb]
  · have hne : b ≠ p.1 := fun e => hnd.1 (List.mem_map.2 ⟨p, hm, e.symm⟩)
    simp only [Wx.World.setObj]
    rw [Array.getElem?_setIfInBounds_ne hne]
    exact hs1.here p (hp1.mem_iff.2 (.tail _ hm))
/-- a piece of a list, and the rest. -/
inductive Sel (X : List Blk) : List Blk → List Blk → Prop
  | all : Sel X X []
  | here {R : List Blk} : Sel X (X ++ R) R
  | cons {y : Blk} {R R' : List Blk} : Sel X R R' → Sel X (y :: R) (y :: R')
  | app {Y R R' : List Blk} : Sel X R R' → Sel X (Y ++ R) (Y ++ R')
theorem Sel.perm {X : List Blk} (h : Sel X H R) : H.Perm (X ++ R) := by
  induction h with
  | all => simp
  | here => exact .refl _
  | cons _ ih => exact (ih.cons _).trans List.perm_middle.symm
  | @app Y R R' _ ih =>
    refine (ih.append_left Y).trans ?_
    rw [← List.append_assoc, ← List.append_assoc]
    exact List.perm_append_comm.append_right _
theorem Sat.sel {X : List Blk} (hs : Sat G w H) (h : Sel X H R) : Sat G w (X ++ R) := hs.perm h.perm
/-- one block, and the rest. -/
inductive Sel1 (b : Nat) (o : Obj) : List Blk → List Blk → Prop
  | head {R : List Blk} : Sel1 b o ((b, o) :: R) R
  | cons {y : Blk} {R R' : List Blk} : Sel1 b o R R' → Sel1 b o (y :: R) (y :: R')
  | app {Y R R' : List Blk} : Sel1 b o R R' → Sel1 b o (Y ++ R) (Y ++ R')
theorem Sel1.perm {b : Nat} {o : Obj} (h : Sel1 b o H R) : H.Perm ((b, o) :: R) := by
  induction h with
  | head => exact .refl _
  | cons _ ih => exact (ih.cons _).trans (.swap _ _ _)
  | @app Y R R' _ ih => exact (ih.append_left Y).trans List.perm_middle
theorem Sat.sel1 {b : Nat} {o : Obj} (hs : Sat G w H) (h : Sel1 b o H R) : Sat G w ((b, o) :: R) := hs.perm h.perm

/-! ### memory -/
theorem cell_row {b off : Nat} {T : TypeId} {cs : List Value} {v : Value} (h : w.heap[b]? = some (row T cs)) (hc : cs[off]? = some v) : w.cell? ⟨b, off, none⟩ = some v := by
  simp [World.cell?, h, hc]
theorem cell_fr {b off : Nat} {T : TypeId} {fr : Nat × Nat} {cs : List Value} {v : Value} (h : w.heap[b]? = some (.cells cs.toArray T fr)) (hc : cs[off]? = some v) : w.cell? ⟨b, off, none⟩ = some v := by
  simp [World.cell?, h, hc]
theorem frozen_row {b off : Nat} {T : TypeId} {cs : List Value} (h : w.heap[b]? = some (row T cs)) : w.frozen? ⟨b, off, none⟩ = false := by
  simp [World.frozen?, h]
theorem setCell_row {b off : Nat} {T : TypeId} {cs : List Value} {v : Value} (h : w.heap[b]? = some (row T cs)) : w.setCell ⟨b, off, none⟩ v = Wx.World.setObj w b (row T (cs.set off v)) := by
  obtain ⟨hb, he⟩ := Array.getElem?_eq_some_iff.1 h
  simp only [World.setCell, Wx.World.setObj]
  congr 1
  apply Array.ext
  · simp
  · intro i h1 h2
    simp only [Array.getElem_modify]
    by_cases hi : b = i
    · subst hi
      simp [he]
    · simp only [hi, if_false]
      rw [Array.getElem_setIfInBounds_ne _ hi]
theorem setObj_setObj {b : Nat} {o o' : Obj} : Wx.World.setObj (Wx.World.setObj w b o) b o' = Wx.World.setObj w b o' := by
  simp [Wx.World.setObj]
theorem setObj_self {b : Nat} {o : Obj} (h : w.heap[b]? = some o) : Wx.World.setObj w b o = w := by
  obtain ⟨hb, he⟩ := Array.getElem?_eq_some_iff.1 h
  have : w.heap.setIfInBounds b o = w.heap := by
    apply Array.ext
    · simp
    · intro i h1 h2
      by_cases hi : b = i
      · subst hi; simp [he]
      · rw [Array.getElem_setIfInBounds_ne _ hi]
  simp [Wx.World.setObj, this]
/-- a list with others written in from a place on. -/
def wr (cs : List Value) (o : Nat) : List Value → List Value
  | [] => cs
  | v :: vs => wr (cs.set o v) (o + 1) vs
theorem wr_length (vs : List Value) : ∀ (cs : List Value) (o : Nat), (wr cs o vs).length = cs.length := by
  induction vs with
  | nil => intros; rfl
  | cons v vs ih => intro cs o; simp [wr, ih]
theorem putCells_row {b : Nat} {T : TypeId} (vs : List Value) : ∀ (w : World) (cs : List Value) (off i : Nat), w.heap[b]? = some (row T cs) → off + i + vs.length ≤ cs.length → (∀ v ∈ vs, v.oneCell' = true) →
    putCells w ⟨b, off, none⟩ i vs = some (Wx.World.setObj w b (row T (wr cs (off + i) vs))) := by
  induction vs with
  | nil => intro w cs off i h _ _; simp only [putCells, wr]; rw [setObj_self h]
  | cons v vs ih =>
    intro w cs off i h hl h1
    have ha : (⟨b, off, none⟩ : Addr).add i = ⟨b, off + i, none⟩ := Addr.add_lit _ _ _
    simp only [List.length_cons] at hl
    have hlt : off + i < cs.length := by omega
    have hc : w.cell? ⟨b, off + i, none⟩ = some cs[off + i] := cell_row h (List.getElem?_eq_getElem hlt)
    have hcond : (v.oneCell' && (w.cell? ((⟨b, off, none⟩ : Addr).add i)).isSome && !w.frozen? ((⟨b, off, none⟩ : Addr).add i)) = true := by
      rw [ha, hc, frozen_row h, h1 v (by simp)]; rfl
    unfold putCells
    rw [if_pos hcond, ha, setCell_row h]
    obtain ⟨hb, _⟩ := Array.getElem?_eq_some_iff.1 h
    rw [ih (Wx.World.setObj w b (row T (cs.set (off + i) v))) (cs.set (off + i) v) off (i + 1) (by simp [Wx.World.setObj, hb]) (by simp; omega) (fun u hu => h1 u (by simp [hu])), setObj_setObj]
    rfl
theorem putCells_sat {b off : Nat} {T : TypeId} {cs vs : List Value} (hs : Sat G w H) (hu : Upd b (row T cs) (row T (wr cs off vs)) H H') (hl : off + vs.length ≤ cs.length) (h1 : ∀ v ∈ vs, v.oneCell' = true) :
    putCells w ⟨b, off, none⟩ 0 vs = some (Wx.World.setObj w b (row T (wr cs off vs))) ∧ Sat G (Wx.World.setObj w b (row T (wr cs off vs))) H' :=
  ⟨putCells_row vs w cs off 0 (hs.get hu.mem) (by simpa using hl) h1, hs.set hu⟩
end

/-! ### rules -/
section
variable {ω : Go.W.Origin}
variable {G : List Blk} {w : World} {H H' R : List Blk} {k : K}
theorem ld_r {b off : Nat} {T : TypeId} {cs : List Value} {v : Value} (hs : Sat G w H) (hm : (b, row T cs) ∈ H) (hc : cs[off]? = some v) (hk : k v w) : ld w (at_ b off) k :=
  ⟨_, v, rfl, cell_row (hs.get hm) hc, hk⟩
theorem ldG_r {b off : Nat} {T : TypeId} {cs : List Value} {v : Value} (hs : Sat G w H) (hm : (b, row T cs) ∈ G) (hc : cs[off]? = some v) (hk : k v w) : ld w (at_ b off) k :=
  ⟨_, v, rfl, cell_row (hs.getG hm) hc, hk⟩
theorem ldN_r {n b off : Nat} {T : TypeId} {cs vs : List Value} (hs : Sat G w H) (hm : (b, row T cs) ∈ H) (hc : (cs.drop off).take n = vs) (hn : vs.length = n) (hk : k (.agg vs.toArray) w) : ldN w n (at_ b off) k := by
  refine ⟨_, vs, rfl, hn, fun j v hv => ?_, hk⟩
  rw [Addr.add_lit]
  refine cell_row (hs.get hm) ?_
  subst hc
  rw [List.getElem?_take] at hv
  split at hv
  · rw [List.getElem?_drop] at hv; exact hv
  · cases hv
theorem new_r {T : TypeId} {cs : List Value} (hs : Sat G w H) (hk : ∀ b w', Sat G w' ((b, row T cs) :: H) → k (ptr b) w') : new w T cs.toArray k := hk _ _ (hs.alloc _)
theorem box_r {T : TypeId} {v : Value} (hs : Sat G w H) (hv : v.oneCell' = true) (hk : ∀ b w', Sat G w' ((b, row T [v]) :: H) → k (ptr b) w') : box w T v k := by
  have : v.cells = #[v] := by cases v <;> first | rfl | cases hv
  have h := hs.alloc (.cells v.cells T)
  rw [this] at h
  show k _ (w.alloc (.cells v.cells T))
  rw [this]
  exact hk _ _ h
theorem boxA_r {T : TypeId} {cs : List Value} (hs : Sat G w H) (hk : ∀ b w', Sat G w' ((b, row T cs) :: H) → k (ptr b) w') : box w T (.agg cs.toArray) k := hk _ _ (hs.alloc _)
theorem st_r {b off : Nat} {T : TypeId} {cs : List Value} {v : Value} (hs : Sat G w H) (hu : Upd b (row T cs) (row T (cs.set off v)) H H') (hl : off < cs.length) (hv : v.oneCell' = true) (hk : ∀ w', Sat G w' H' → k undef w') : st w 1 (at_ b off) v k := by
  have hc : v.cells = #[v] := by cases v <;> first | rfl | cases hv
  obtain ⟨h1, h2⟩ := putCells_sat (vs := [v]) hs hu (by simp; omega) (by simpa using hv)
  exact ⟨_, _, rfl, by rw [hc]; rfl, by rw [hc]; exact h1, hk _ h2⟩
theorem stN_r {n b off : Nat} {T : TypeId} {cs vs : List Value} (hs : Sat G w H) (hu : Upd b (row T cs) (row T (wr cs off vs)) H H') (hn : vs.length = n) (hl : off + vs.length ≤ cs.length) (hv : ∀ v ∈ vs, v.oneCell' = true) (hk : ∀ w', Sat G w' H' → k undef w') : st w n (at_ b off) (.agg vs.toArray) k := by
  obtain ⟨h1, h2⟩ := putCells_sat hs hu hl hv
  exact ⟨_, _, rfl, by simp [Value.cells, hn], by simpa [Value.cells] using h1, hk _ h2⟩
theorem add_r {n b off : Nat} (hk : k (at_ b (off + n)) w) : add w n (at_ b off) k := ⟨_, rfl, by rw [Addr.add_lit]; exact hk⟩
theorem nn_r {b off : Nat} (hk : k (at_ b off) w) : nn w (at_ b off) k := ⟨rfl, hk⟩
theorem nnf_r {f : FuncId} {a c : Array Value} (hk : k (.func (.func f) a c) w) : nn w (.func (.func f) a c) k := ⟨rfl, hk⟩
theorem un_not {b : Bool} (hk : k (.bool !b) w) : un w .not (.bool b) k := ⟨_, rfl, hk⟩
theorem pick_r {t : Bool} {a b : Value} (hk : k (if t then a else b) w) : pick w (.bool t) a b k := ⟨t, rfl, hk⟩
theorem tup_r {i : Nat} {vs : List Value} {v : Value} (hv : vs[i]? = some v) (hk : k v w) : tup w i (.tuple vs.toArray) k := ⟨v, by simpa [tupV] using hv, hk⟩
theorem fld_r {off : Nat} {cs : List Value} {v : Value} (hv : cs[off]? = some v) (hk : k v w) : fld w none off (.agg cs.toArray) k := ⟨v, by simpa [partV] using hv, hk⟩
theorem fldN_r {n off : Nat} {cs vs : List Value} (hv : (cs.drop off).take n = vs) (hk : k (.agg vs.toArray) w) : fld w (some n) off (.agg cs.toArray) k := by
  refine ⟨_, rfl, ?_⟩
  have : cs.toArray.extract off (off + n) = vs.toArray := by
    subst hv
    rw [List.extract_toArray, List.extract_eq_take_drop]
    simp
  rw [this]; exact hk
theorem conv_r {j i : IntKind} {n : Int} (hk : k (.int j (j.wrap n)) w) : conv w j (.int i n) k := ⟨i, n, rfl, hk⟩
theorem len_r {a : Option Addr} {n c : Nat} (hk : k (int n) w) : len w (.slice a n c) k := ⟨_, rfl, hk⟩
theorem cap_r {a : Option Addr} {n c : Nat} (hk : k (int c) w) : cap w (.slice a n c) k := ⟨_, rfl, hk⟩
theorem Br_r {b : Bool} {A B : Prop} (h1 : b = true → A) (h2 : b = false → B) : Br (.bool b) A B := ⟨b, rfl, h1, h2⟩
theorem Br_t {A B : Prop} (h : A) : Br (.bool true) A B := Br_r (fun _ => h) (fun h => by cases h)
theorem Br_f {A B : Prop} (h : B) : Br (.bool false) A B := Br_r (fun h => by cases h) (fun _ => h)
theorem Br_d {p : Prop} [Decidable p] {A B : Prop} (h1 : p → A) (h2 : ¬ p → B) : Br (.bool (decide p)) A B := Br_r (fun h => h1 (of_decide_eq_true h)) (fun h => h2 (of_decide_eq_false h))
theorem idx_r {size b off n c : Nat} {i : Int} {j : IntKind} (h0 : 0 ≤ i) (h1 : i < n) (hk : k (at_ b (off + i.toNat * size)) w) : idx w size (.slice (some ⟨b, off, none⟩) n c) (.int j i) k :=
  ⟨_, if_pos ⟨h0, h1⟩, by rw [Addr.add_lit]; exact hk⟩
theorem idxA_r {len size b off : Nat} {i : Int} {j : IntKind} (h0 : 0 ≤ i) (h1 : i < len) (hk : k (at_ b (off + i.toNat * size)) w) : idxA w len size (at_ b off) (.int j i) k :=
  ⟨_, if_pos ⟨h0, h1⟩, by rw [Addr.add_lit]; exact hk⟩
theorem draw_r {kk : World → Prop} (hs : Sat G w H) (hk : ∀ w', Sat G w' H → kk w') : draw w kk := hk _ (hs.of_heap rfl)
theorem drawS_r {kk : (World → Prop) → World → Prop} (S : World → Prop) (hs : Sat G w H) (hk : ∀ w', Sat G w' H → kk S w') : drawS w kk := ⟨S, hk _ (hs.of_heap rfl)⟩
theorem held_ld {b off : Nat} {T : TypeId} {cs : List Value} {v : Value} (hs : Sat G w H) (hm : (b, row T cs) ∈ H) (hc : cs[off]? = some v) (hk : k v w) : held (fun w => Sat G w H) w (fun w k => ld w (at_ b off) k) k :=
  ⟨hs, v, fun _ hs' => ld_r hs' hm hc ⟨rfl, rfl⟩, hk⟩
theorem held_ldN {n b off : Nat} {T : TypeId} {cs vs : List Value} (hs : Sat G w H) (hm : (b, row T cs) ∈ H) (hc : (cs.drop off).take n = vs) (hn : vs.length = n) (hk : k (.agg vs.toArray) w) : held (fun w => Sat G w H) w (fun w k => ldN w n (at_ b off) k) k :=
  ⟨hs, _, fun _ hs' => ldN_r hs' hm hc hn ⟨rfl, rfl⟩, hk⟩
/-! whole numbers -/
theorem wrap64_in {n : Int} (h0 : -9223372036854775808 ≤ n) (h1 : n ≤ 9223372036854775807) : IntKind.i64.wrap n = n := by
  simp [IntKind.wrap, IntKind.signed, IntKind.bits]; omega
theorem bin_add {a b : Int} (h0 : -9223372036854775808 ≤ a + b) (h1 : a + b ≤ 9223372036854775807) (hk : k (int (a + b)) w) : bin w .add (int a) (int b) k := ⟨int (a + b), by simp [intBin, wrap64_in h0 h1], hk⟩
theorem bin_sub {a b : Int} (h0 : -9223372036854775808 ≤ a - b) (h1 : a - b ≤ 9223372036854775807) (hk : k (int (a - b)) w) : bin w .sub (int a) (int b) k := ⟨int (a - b), by simp [intBin, wrap64_in h0 h1], hk⟩
theorem bin_mul {a b : Int} (h0 : -9223372036854775808 ≤ a * b) (h1 : a * b ≤ 9223372036854775807) (hk : k (int (a * b)) w) : bin w .mul (int a) (int b) k := ⟨int (a * b), by simp [intBin, wrap64_in h0 h1], hk⟩
theorem bin_quo {a b : Int} (h0 : 0 ≤ a) (h1 : 0 < b) (h2 : a ≤ 9223372036854775807) (hk : k (int (a / b)) w) : bin w .quo (int a) (int b) k := by
  refine ⟨_, if_pos ⟨rfl, by omega⟩, ?_⟩
  have e : a.tdiv b = a / b := Int.tdiv_eq_ediv_of_nonneg h0
  have h3 : 0 ≤ a / b := Int.ediv_nonneg h0 (by omega)
  have h4 : a / b ≤ a := Int.ediv_le_self _ h0
  rw [e, wrap64_in (by omega) (by omega)]; exact hk
theorem bin_rem {a b : Int} (h0 : 0 ≤ a) (h1 : 0 < b) (hk : k (int (a % b)) w) : bin w .rem (int a) (int b) k := by
  refine ⟨_, if_pos ⟨rfl, by omega⟩, ?_⟩
  have e : a.tmod b = a % b := Int.tmod_eq_emod_of_nonneg h0
  rw [e]; exact hk
theorem bin_eql {j : IntKind} {a b : Int} (hk : k (.bool (a == b)) w) : bin w .eql (.int j a) (.int j b) k := ⟨_, if_pos rfl, hk⟩
theorem bin_neq {j : IntKind} {a b : Int} (hk : k (.bool (a != b)) w) : bin w .neq (.int j a) (.int j b) k := ⟨_, if_pos rfl, hk⟩
theorem bin_lss {j : IntKind} {a b : Int} (hk : k (.bool (decide (a < b))) w) : bin w .lss (.int j a) (.int j b) k := ⟨_, if_pos rfl, hk⟩
theorem bin_leq {j : IntKind} {a b : Int} (hk : k (.bool (decide (a ≤ b))) w) : bin w .leq (.int j a) (.int j b) k := ⟨_, if_pos rfl, hk⟩
theorem bin_gtr {j : IntKind} {a b : Int} (hk : k (.bool (decide (a > b))) w) : bin w .gtr (.int j a) (.int j b) k := ⟨_, if_pos rfl, hk⟩
theorem bin_geq {j : IntKind} {a b : Int} (hk : k (.bool (decide (a ≥ b))) w) : bin w .geq (.int j a) (.int j b) k := ⟨_, if_pos rfl, hk⟩
theorem Br_eq {a b : Int} {A B : Prop} (h1 : a = b → A) (h2 : a ≠ b → B) : Br (.bool (a == b)) A B := Br_r (fun h => h1 (by simpa using h)) (fun h => h2 (by simpa using h))
theorem Br_ne {a b : Int} {A B : Prop} (h1 : a ≠ b → A) (h2 : a = b → B) : Br (.bool (a != b)) A B := Br_r (fun h => h1 (by simpa using h)) (fun h => h2 (by simpa using h))
theorem Br_not {b : Bool} {A B : Prop} (h1 : b = false → A) (h2 : b = true → B) : Br (.bool !b) A B := Br_r (fun h => h1 (by simpa using h)) (fun h => h2 (by simpa using h))
theorem eq_pn {neg c : Bool} {a : Option Addr} (hk : k (.bool (neg != a.isNone)) w) : eq w neg c .ptr (.pointer a) (.pointer none) k := by
  cases a <;> exact ⟨_, rfl, hk⟩
theorem eq_ifn {neg : Bool} {T : TypeId} {v : Value} {c : Bool} (hk : k (.bool (neg != false)) w) : eq w neg c .iface (.iface T v) .nilIface k := ⟨_, rfl, hk⟩
theorem eq_nn {neg : Bool} (hk : k (.bool (neg != true)) w) : eq w neg true .iface .nilIface .nilIface k := ⟨_, rfl, hk⟩
theorem eq_bool {neg c : Bool} {a b : Bool} (hk : k (.bool (neg != (a == b))) w) : eq w neg c .bool (.bool a) (.bool b) k := ⟨_, rfl, hk⟩
theorem eq_mapn {neg c : Bool} {a : Option Nat} (hk : k (.bool (neg != a.isNone)) w) : eq w neg c .map (.map a) (.map none) k := by
  cases a <;> exact ⟨_, rfl, hk⟩
/-- a loop: what holds at its head, with a number that falls. -/
theorem loop_r {ini : List Value} {body : (Nat → Value) → List Value → (List Value → World → Prop) → World → Prop} (I : Nat → List Value → World → Prop) (n : Nat) (h0 : I n ini w)
    (h : ∀ J n vs w (next : List Value → World → Prop), I n vs w → (∀ m vs' w', m < n → I m vs' w' → next vs' w') → body J vs next w) : loop ini w body :=
  ⟨I, ⟨n, h0⟩, fun J n vs w hI => h J n vs w _ hI fun m vs' w' hm hI' => ⟨m, hm, hI'⟩⟩
theorem jump_r {first : (List Value → World → Prop) → Prop} {pass : (Nat → Value) → List Value → (List Value → World → Prop) → World → Prop} (I : Nat → List Value → World → Prop)
    (h0 : ∀ next : List Value → World → Prop, (∀ n vs w, I n vs w → next vs w) → first next)
    (h : ∀ J n vs w (next : List Value → World → Prop), I n vs w → (∀ m vs' w', m < n → I m vs' w' → next vs' w') → pass J vs next w) : jump first pass :=
  ⟨I, h0 _ fun n _ _ hI => ⟨n, hI⟩, fun J n vs w hI => h J n vs w _ hI fun m vs' w' hm hI' => ⟨m, hm, hI'⟩⟩
theorem callV_r {P : Program} {f : FuncId} {first cap : List Value} {args : List Value} (hm : mayEnter P f = true) (hk : call P w f (first ++ args ++ cap) k) : callV P w (.func (.func f) first.toArray cap.toArray) args k := by
  refine ⟨f, _, _, rfl, hm, ?_⟩
  simpa using hk
end
end Go.W
end
section
namespace Go.W
open Go Go.Wx
/-! ### slices that are owned whole -/
/-- the slice v, of elements of 'size' cells and type T, holds the cells xs, in memory of its own. -/
inductive Own (T : TypeId) (size : Nat) : Value → List Value → List Blk → Prop
  | nil : Own T size (.slice none 0 0) [] []
  | some {b n c : Nat} {xs sp : List Value} (hn : xs.length = n * size) (hc : (xs ++ sp).length = c * size) : Own T size (.slice (some ⟨b, 0, none⟩) n c) xs [(b, row T (xs ++ sp))]
theorem growBy_le (n : Nat) : ∀ (r c : Nat), c ≤ n + (n + 768) / 4 → Builtin.growBy n r c ≤ n + (n + 768) / 4
  | 0, c, h => h
  | r + 1, c, h => by
    unfold Builtin.growBy
    split
    · exact h
    · exact growBy_le n r _ (by omega)
theorem nextslicecap_le {n c : Nat} (h : c < n) : Builtin.nextslicecap n c ≤ 2 * n + 192 := by
  unfold Builtin.nextslicecap
  split
  · omega
  · split
    · omega
    · have := growBy_le n 4 c (by omega)
      omega
theorem zeroRow_length (z : List Value) : ∀ n, (zeroRow n z).toList.length = n * z.length := by
  intro n
  simp [zeroRow]
theorem zeroRow_toList (n : Nat) (z : List Value) : zeroRow n z = ((List.replicate n z).flatten).toArray := rfl
section
variable {ω : Go.W.Origin}
variable {G : List Blk} {w : World} {H H' R : List Blk} {k : K}
/-- the cells of a slice, as they lie in memory. -/
def Cells (w : World) (size : Nat) (x : Value) (ys : List Value) : Prop := match x with
  | .slice (some a) n _ => ys.length = n * size ∧ ∀ j v, ys[j]? = some v → w.cell? (a.add j) = some v
  | .slice none n _ => ys = [] ∧ n = 0
  | _ => False
theorem wr_append (xs sp ys : List Value) (h : ys.length ≤ sp.length) : wr (xs ++ sp) xs.length ys = xs ++ ys ++ sp.drop ys.length := by
  induction ys generalizing xs sp with
  | nil => simp [wr]
  | cons y ys ih =>
    match sp, h with
    | s :: sp, h =>
      simp only [wr]
      have e : (xs ++ s :: sp).set xs.length y = (xs ++ [y]) ++ sp := by
        rw [List.set_append_right _ _ (Nat.le_refl _)]
        simp
      have := ih (xs ++ [y]) sp (by simpa using h)
      rw [e, show xs.length + 1 = (xs ++ [y]).length by simp, this]
      simp
theorem app_r {T : TypeId} {size bytes m xc : Nat} {zero : Array Value} {v : Value} {xa : Option Addr} {xs ys : List Value} {Hv : List Blk} (hs : Sat G w H) (ho : Own T size v xs Hv) (hsel : Sel Hv H R)
    (hsrc : Cells w size (.slice xa m xc) ys) (h1 : ∀ y ∈ ys, y.oneCell' = true) (hsz : 0 < size) (hz : zero.size = size) (hb : bytes ≤ 65536) (hlen : xs.length + ys.length ≤ 1073741824)
    (hk : ∀ v' Hv' w', Own T size v' (xs ++ ys) Hv' → Sat G w' (Hv' ++ R) → k v' w') : app w T size bytes zero v (.slice xa m xc) k := by
  have hs' := hs.sel hsel
  have hx1 : xa = none → ys = [] := by
    intro h; subst h; exact hsrc.1
  have hx2 : xa ≠ none → cellsOf w (.slice xa m xc) (m * size) ys := by
    intro h
    cases xa with
    | none => exact absurd rfl h
    | some a => exact ⟨hsrc.1, hsrc.2⟩
  have hm : ys.length = m * size := by
    cases xa with
    | none => obtain ⟨h1, h2⟩ := hsrc; subst h1; subst h2; simp
    | some a => exact hsrc.1
  have fresh : ∀ (base : Option Addr) (n c : Nat) (w1 : World), xs.length = n * size → (∀ o, Sat G (({ w with drawn := w.drawn + 1 } : World).alloc o) ((w.heap.size, o) :: (Hv ++ R))) →
      ∀ c', n + m ≤ c' → k (.slice (some ⟨w.heap.size, 0, none⟩) (n + m) c') ({ w with drawn := w.drawn + 1 }.alloc (.cells (xs.toArray ++ ys.toArray ++ zeroRow (c' - (n + m)) zero.toList) T)) := by
    intro base n c w1 hn hal c' hc'
    have e : xs.toArray ++ ys.toArray ++ zeroRow (c' - (n + m)) zero.toList = ((xs ++ ys) ++ (zeroRow (c' - (n + m)) zero.toList).toList).toArray := by
      simp
    rw [e]
    refine hk _ [(w.heap.size, row T ((xs ++ ys) ++ (zeroRow (c' - (n + m)) zero.toList).toList))] _ (.some ?_ ?_) ?_
    · simp [hn, hm, Nat.add_mul]
    · rw [List.length_append, zeroRow_length, List.length_append, hn, hm]
      simp only [Array.length_toList, hz]
      rw [← Nat.add_mul, ← Nat.add_mul]
      congr 1
      omega
    · exact ((hal (row T ((xs ++ ys) ++ (zeroRow (c' - (n + m)) zero.toList).toList))).perm List.perm_middle.symm).drop
  have hdr : ∀ o, Sat G (({ w with drawn := w.drawn + 1 } : World).alloc o) ((w.heap.size, o) :: (Hv ++ R)) := fun o => Sat.alloc (w := { w with drawn := w.drawn + 1 }) (hs'.of_heap rfl) o
  have hmle : m ≤ m * size := Nat.le_mul_of_pos_right m hsz
  cases ho with
  | nil =>
    refine ⟨none, 0, 0, xa, m, xc, rfl, rfl, ?_⟩
    by_cases h0 : m = 0
    · subst h0
      have hy : ys = [] := by simpa using hm
      subst hy
      refine .inl ⟨by omega, [], w, fun _ => rfl, fun h => ?_, rfl, ?_⟩
      · have := hx2 h; simpa using this
      · have := hk (.slice none 0 0) [] w (by simpa using Own.nil) (by simpa using hs')
        simpa using this
    · refine .inr ⟨by omega, ?_, ?_, [], ys, fun _ => rfl, fun h => absurd rfl h, hx1, hx2, ?_⟩
      · simp only [Nat.zero_add, IntKind.max_i64]; simp at hlen; omega
      · have hnc := nextslicecap_le (n := 0 + m) (c := 0) (by omega)
        simp at hlen
        exact Nat.le_trans (Nat.mul_le_mul hnc hb) (by omega)
      · intro c' hc'
        have := fresh none 0 0 w (by simp) hdr c' hc'
        simpa using this
  | @some b n c xs sp hn hc =>
    refine ⟨some ⟨b, 0, none⟩, n, c, xa, m, xc, rfl, rfl, ?_⟩
    have hnle : n ≤ n * size := Nat.le_mul_of_pos_right n hsz
    have hmem : (b, row T (xs ++ sp)) ∈ [(b, row T (xs ++ sp))] ++ R := by simp
    by_cases hfit : n + m ≤ c
    · have hsp : ys.length ≤ sp.length := by
        rw [List.length_append, hn] at hc
        have : (n + m) * size ≤ c * size := Nat.mul_le_mul_right _ hfit
        rw [Nat.add_mul] at this
        omega
      have hput := putCells_sat (b := b) (off := n * size) (T := T) (cs := xs ++ sp) (vs := ys) hs' (.head) (by simp; omega) h1
      have ha : (⟨b, 0, none⟩ : Addr).add (n * size) = ⟨b, n * size, none⟩ := by rw [Addr.add_lit]; simp
      refine .inl ⟨hfit, ys, _, hx1, hx2, by dsimp only; rw [ha]; exact hput.1, ?_⟩
      have h2 := hput.2
      rw [← hn, wr_append _ _ _ hsp] at h2 ⊢
      refine hk _ _ _ (.some (sp := sp.drop ys.length) ?_ ?_) h2
      · simp [hn, hm, Nat.add_mul]
      · simp [List.length_append] at hc ⊢; omega
    · refine .inr ⟨by omega, ?_, ?_, xs, ys, (by simp), fun _ => ⟨hn, fun j v hj => ?_⟩, hx1, hx2, fun c' hc' => fresh none n c w hn hdr c' hc'⟩
      · simp only [IntKind.max_i64]; omega
      · have hnc := nextslicecap_le (n := n + m) (c := c) (by omega)
        exact Nat.le_trans (Nat.mul_le_mul hnc hb) (by omega)
      · have hjl : j < xs.length := (List.getElem?_eq_some_iff.1 hj).1
        rw [Addr.add_lit, Nat.zero_add]
        exact cell_row (hs'.get hmem) (by rw [List.getElem?_append_left hjl]; exact hj)
end
end Go.W
end
section
namespace Go.W
open Go Go.Wx
/-! ### maps -/
/-- what a map with int keys holds: a function. -/
structure MapOf (es : List MapEntry) (clock : Nat) (f : Int → Option Value) : Prop where
  keys : ∀ e ∈ es, ∃ n, e.key = int n
  nodup : (es.map (·.key)).Nodup
  look : ∀ n v, f n = some v ↔ ∃ e ∈ es, e.key = int n ∧ e.val = v
  born : ∀ e ∈ es, e.born < clock
  bnodup : (es.map (·.born)).Nodup
def fupd {α : Type} (f : Int → Option α) (n : Int) (v : Option α) : Int → Option α := fun m => if m = n then v else f m
theorem map_inj {es : List MapEntry} (h : (es.map (·.key)).Nodup) {i j : Nat} (hi : i < es.length) (hj : j < es.length) (he : es[i].key = es[j].key) : i = j := by
  have hp := List.pairwise_iff_getElem.1 h
  rcases Nat.lt_trichotomy i j with hlt | rfl | hlt
  · have := hp i j (by simpa using hi) (by simpa using hj) hlt
    simp [he] at this
  · rfl
  · have := hp j i (by simpa using hj) (by simpa using hi) hlt
    simp [he] at this
theorem sameNow_int (n : Int) (m : Int) : Instr.sameNow (.int .i64) (int n) (int m) = some (n == m) := by simp [Instr.sameNow]
theorem int_inj {n m : Int} (h : int n = int m) : n = m := by simpa using h
theorem findNow_none {n : Int} : ∀ (es : List MapEntry) (i : Nat), (∀ e ∈ es, ∃ m, e.key = int m) → (∀ e ∈ es, e.key ≠ int n) → Instr.findNow (.int .i64) (int n) es i = some none
  | [], _, _, _ => rfl
  | e :: es, i, hk, hn => by
    obtain ⟨m, hm⟩ := hk e (by simp)
    have hne : (n == m) = false := by
      have := hn e (by simp)
      rw [hm] at this
      simp only [beq_eq_false_iff_ne, ne_eq]
      intro h; exact this (by rw [h])
    unfold Instr.findNow
    rw [hm, sameNow_int, hne]
    exact findNow_none es (i + 1) (fun e he => hk e (by simp [he])) (fun e he => hn e (by simp [he]))
theorem findNow_some {n : Int} : ∀ (es : List MapEntry) (i : Nat) (e : MapEntry), (∀ e ∈ es, ∃ m, e.key = int m) → e ∈ es → e.key = int n → ∃ j e', es[j]? = some e' ∧ e'.key = int n ∧ Instr.findNow (.int .i64) (int n) es i = some (some (i + j, e'.val))
  | [], _, _, _, h, _ => by cases h
  | e0 :: es, i, e, hk, he, hen => by
    obtain ⟨m, hm⟩ := hk e0 (by simp)
    unfold Instr.findNow
    rw [hm, sameNow_int]
    by_cases h : n = m
    · subst h
      refine ⟨0, e0, rfl, hm, ?_⟩
      simp
    · have hb : (n == m) = false := by simpa using h
      rw [hb]
      have he' : e ∈ es := by
        rcases List.mem_cons.1 he with rfl | he
        · rw [hen] at hm; exact absurd (int_inj hm) h
        · exact he
      obtain ⟨j, e', h1, h2, h3⟩ := findNow_some es (i + 1) e (fun e he => hk e (by simp [he])) he' hen
      exact ⟨j + 1, e', by simpa using h1, h2, by dsimp only; rw [h3, show i + 1 + j = i + (j + 1) by omega]⟩
section
variable {es : List MapEntry} {clock : Nat} {f : Int → Option Value}
theorem MapOf.key_none (h : MapOf es clock f) {n : Int} (hf : f n = none) : keyI (int n) es = some none := by
  refine findNow_none es 0 h.keys fun e he hk => ?_
  have := (h.look n e.val).2 ⟨e, he, hk, rfl⟩
  rw [hf] at this; cases this
theorem MapOf.key_some (h : MapOf es clock f) {n : Int} {v : Value} (hf : f n = some v) : ∃ j e, es[j]? = some e ∧ e.key = int n ∧ e.val = v ∧ keyI (int n) es = some (some (j, v)) := by
  obtain ⟨e, he, hk, hv⟩ := (h.look n v).1 hf
  obtain ⟨j, e', h1, h2, h3⟩ := findNow_some es 0 e h.keys he hk
  have : e' = e := by
    have hm : e' ∈ es := List.mem_of_getElem? h1
    have h4 := (h.look n e'.val).2 ⟨e', hm, h2, rfl⟩
    obtain ⟨i, hi, rfl⟩ := List.getElem_of_mem he
    obtain ⟨i', hi', rfl⟩ := List.getElem_of_mem hm
    have : i' = i := map_inj h.nodup hi' hi (by rw [h2, hk])
    subst this; rfl
  subst this
  exact ⟨j, e', h1, h2, hv, by rw [hv] at h3; simpa [keyI] using h3⟩
theorem MapOf.empty : MapOf [] 0 (fun _ => none) := ⟨by simp, by simp, by simp, by simp, by simp⟩
theorem MapOf.put (h : MapOf es clock f) {n : Int} {v : Value} {r : Option (Nat × Value)} (hr : keyI (int n) es = some r) :
    ∃ es' clock', (match r with
      | some (i, _) => Obj.map (es.toArray.modify i fun e => { e with key := int n, val := v }) clock
      | none => Obj.map (es.toArray.push { key := int n, val := v, born := clock }) (clock + 1)) = .map es'.toArray clock' ∧ MapOf es' clock' (fupd f n (some v)) := by
  cases hf : f n with
  | none =>
    rw [h.key_none hf] at hr
    obtain rfl : none = r := Option.some.inj hr
    refine ⟨es ++ [{ key := int n, val := v, born := clock }], clock + 1, by simp, ?_⟩
    refine ⟨?_, ?_, ?_, ?_, ?_⟩
    · intro e he
      rcases List.mem_append.1 he with he | he
      · exact h.keys e he
      · obtain rfl : e = _ := by simpa using he
        exact ⟨n, rfl⟩
    · rw [List.map_append, List.nodup_append]
      refine ⟨h.nodup, by simp, ?_⟩
      intro a ha b hb
      simp at hb; subst hb
      obtain ⟨e, he, rfl⟩ := List.mem_map.1 ha
      intro hk
      have := (h.look n e.val).2 ⟨e, he, hk, rfl⟩
      rw [hf] at this; cases this
    · intro m u
      unfold fupd
      by_cases hm : m = n
      · subst hm
        rw [if_pos rfl]
        constructor
        · intro hu; cases hu; exact ⟨{ key := int m, val := v, born := clock }, List.mem_append.2 (.inr (by simp)), rfl, rfl⟩
        · rintro ⟨e, he, hk, hv⟩
          rcases List.mem_append.1 he with he | he
          · have := (h.look m e.val).2 ⟨e, he, hk, rfl⟩
            rw [hf] at this; cases this
          · obtain rfl : e = _ := by simpa using he
            rw [← hv]
      · rw [if_neg hm, h.look]
        constructor
        · rintro ⟨e, he, h2⟩; exact ⟨e, List.mem_append.2 (.inl he), h2⟩
        · rintro ⟨e, he, hk, hv⟩
          rcases List.mem_append.1 he with he | he
          · exact ⟨e, he, hk, hv⟩
          · obtain rfl : e = _ := by simpa using he
            exact absurd (int_inj hk).symm hm
    · intro e he
      rcases List.mem_append.1 he with he | he
      · have := h.born e he; omega
      · obtain rfl : e = _ := by simpa using he
        exact Nat.lt_succ_self _
    · rw [List.map_append, List.nodup_append]
      refine ⟨h.bnodup, by simp, ?_⟩
      intro a ha b hb
      simp at hb; subst hb
      obtain ⟨e, he, rfl⟩ := List.mem_map.1 ha
      have := h.born e he
      omega
  | some u =>
    obtain ⟨j, e0, h1, h2, h3, h4⟩ := h.key_some hf
    rw [h4] at hr
    obtain rfl : some (j, u) = r := Option.some.inj hr
    have hjl : j < es.length := (List.getElem?_eq_some_iff.1 h1).1
    have he0 : es[j] = e0 := (List.getElem?_eq_some_iff.1 h1).2
    let e1 : MapEntry := { key := int n, val := v, born := e0.born }
    refine ⟨es.set j e1, clock, ?_, ?_⟩
    · show Obj.map (es.toArray.modify j fun e => { key := int n, val := v, born := e.born }) clock = Obj.map (es.set j e1).toArray clock
      congr 1
      apply Array.ext
      · simp
      · intro i hi1 hi2
        simp only [Array.getElem_modify, List.getElem_toArray, List.getElem_set]
        split
        · rename_i hh; subst hh; simp only [e1, he0]
        · rfl
    · have hmap : ∀ {β : Type} (g : MapEntry → β), g e1 = g e0 → (es.set j e1).map g = es.map g := by
        intro β g hg
        rw [List.map_set, hg]
        apply List.ext_getElem
        · simp
        · intro i hi1 hi2
          rw [List.getElem_set]
          split
          · rename_i hh; subst hh; simp [he0]
          · rfl
      have hmem : ∀ e, e ∈ es.set j e1 → e = e1 ∨ (e ∈ es ∧ e.key ≠ int n) := by
        intro e he
        obtain ⟨i, hi, rfl⟩ := List.getElem_of_mem he
        rw [List.getElem_set]
        split
        · exact .inl rfl
        · rename_i hij
          refine .inr ⟨List.getElem_mem _, fun hk => hij ?_⟩
          exact (map_inj h.nodup (by simpa using hi) hjl (by rw [hk, he0, h2])).symm
      refine ⟨?_, ?_, ?_, ?_, ?_⟩
      · intro e he
        rcases hmem e he with rfl | ⟨he, _⟩
        · exact ⟨n, rfl⟩
        · exact h.keys e he
      · rw [hmap _ (by simp [e1, h2])]; exact h.nodup
      · intro m u'
        unfold fupd
        by_cases hm : m = n
        · subst hm
          rw [if_pos rfl]
          constructor
          · intro hu; cases hu; exact ⟨e1, List.mem_set hjl _, rfl, rfl⟩
          · rintro ⟨e, he, hk, hv⟩
            rcases hmem e he with rfl | ⟨he, hne⟩
            · rw [← hv]
            · exact absurd hk hne
        · rw [if_neg hm, h.look]
          constructor
          · rintro ⟨e, he, hk, hv⟩
            refine ⟨e, ?_, hk, hv⟩
            obtain ⟨i, hi, rfl⟩ := List.getElem_of_mem he
            have hij : j ≠ i := by
              rintro rfl
              rw [he0, h2] at hk
              exact hm (int_inj hk).symm
            have : (es.set j e1)[i]'(by simpa using hi) = es[i] := List.getElem_set_ne hij _
            rw [← this]; exact List.getElem_mem _
          · rintro ⟨e, he, hk, hv⟩
            rcases hmem e he with rfl | ⟨he, hne⟩
            · exact absurd (int_inj hk).symm hm
            · exact ⟨e, he, hk, hv⟩
      · intro e he
        rcases hmem e he with rfl | ⟨he, _⟩
        · exact h.born e0 (he0 ▸ List.getElem_mem _)
        · exact h.born e he
      · rw [hmap _ rfl]; exact h.bnodup
theorem MapOf.del (h : MapOf es clock f) {n : Int} {r : Option (Nat × Value)} (hr : keyI (int n) es = some r) :
    ∃ es', (match r with
      | some (i, _) => Obj.map (es.toArray.eraseIdxIfInBounds i) clock
      | none => Obj.map es.toArray clock) = .map es'.toArray clock ∧ MapOf es' clock (fupd f n none) ∧ (f n ≠ none → es'.length + 1 = es.length) := by
  cases hf : f n with
  | none =>
    rw [h.key_none hf] at hr
    obtain rfl : none = r := Option.some.inj hr
    refine ⟨es, rfl, ?_, fun hh => absurd rfl hh⟩
    have : fupd f n none = f := by
      funext m
      unfold fupd
      split
      · rename_i hm; subst hm; exact hf.symm
      · rfl
    rw [this]; exact h
  | some u =>
    obtain ⟨j, e0, h1, h2, h3, h4⟩ := h.key_some hf
    rw [h4] at hr
    obtain rfl : some (j, u) = r := Option.some.inj hr
    have hjl : j < es.length := (List.getElem?_eq_some_iff.1 h1).1
    have he0 : es[j] = e0 := (List.getElem?_eq_some_iff.1 h1).2
    refine ⟨es.eraseIdx j, ?_, ?_, fun _ => by rw [List.length_eraseIdx_of_lt hjl]; omega⟩
    · show Obj.map (es.toArray.eraseIdxIfInBounds j) clock = Obj.map (es.eraseIdx j).toArray clock
      congr 1
      rw [Array.eraseIdxIfInBounds_eq]
      simp [hjl]
    · have hmem : ∀ e, e ∈ es.eraseIdx j ↔ (e ∈ es ∧ e.key ≠ int n) := by
        intro e
        rw [List.mem_eraseIdx_iff_getElem]
        constructor
        · rintro ⟨i, hi, hij, rfl⟩
          refine ⟨List.getElem_mem _, fun hk => hij ?_⟩
          exact map_inj h.nodup hi hjl (by rw [hk, he0, h2])
        · rintro ⟨he, hne⟩
          obtain ⟨i, hi, rfl⟩ := List.getElem_of_mem he
          exact ⟨i, hi, fun hij => hne (by subst hij; rw [he0, h2]), rfl⟩
      have hsub : (es.eraseIdx j).Sublist es := List.eraseIdx_sublist _ _
      refine ⟨fun e he => h.keys e ((hmem e).1 he).1, (hsub.map _).nodup h.nodup, ?_, fun e he => h.born e ((hmem e).1 he).1, (hsub.map _).nodup h.bnodup⟩
      intro m u'
      unfold fupd
      by_cases hm : m = n
      · subst hm
        rw [if_pos rfl]
        constructor
        · intro hu; cases hu
        · rintro ⟨e, he, hk, _⟩; exact absurd hk ((hmem e).1 he).2
      · rw [if_neg hm, h.look]
        constructor
        · rintro ⟨e, he, hk, hv⟩
          exact ⟨e, (hmem e).2 ⟨he, fun hk' => hm (int_inj (hk.symm.trans hk'))⟩, hk, hv⟩
        · rintro ⟨e, he, hk, hv⟩; exact ⟨e, ((hmem e).1 he).1, hk, hv⟩
end
section
variable {ω : Go.W.Origin}
variable {G : List Blk} {w : World} {H H' R : List Blk} {k : K} {es : List MapEntry} {clock : Nat} {f : Int → Option Value}
theorem lkp_r {b : Nat} {zero : Value} {ok : Bool} {n : Int} (hs : Sat G w H) (hm : (b, Obj.map es.toArray clock) ∈ H) (hf : MapOf es clock f)
    (hk : k (match f n with
      | some v => if ok then .tuple #[v, .bool true] else v
      | none => if ok then .tuple #[zero, .bool false] else zero) w) : lkp w zero ok (.map (some b)) (int n) k := by
  cases hfn : f n with
  | none =>
    refine ⟨es, none, ⟨_, _, hs.get hm, by simp⟩, hf.key_none hfn, ?_⟩
    rw [hfn] at hk; exact hk
  | some v =>
    obtain ⟨j, e, h1, h2, h3, h4⟩ := hf.key_some hfn
    refine ⟨es, some (j, v), ⟨_, _, hs.get hm, by simp⟩, h4, ?_⟩
    rw [hfn] at hk; exact hk
theorem lkp_nil {zero : Value} {ok : Bool} {n : Value} (hk : k (if ok then .tuple #[zero, .bool false] else zero) w) : lkp w zero ok (.map none) n k :=
  ⟨[], none, rfl, rfl, hk⟩
theorem lenM_r {b : Nat} (hs : Sat G w H) (hm : (b, Obj.map es.toArray clock) ∈ H) (hk : k (int es.length) w) : lenM w (.map (some b)) k :=
  ⟨es, ⟨_, _, hs.get hm, by simp⟩, hk⟩
theorem mput_r {b : Nat} {n : Int} {v : Value} (hs : Sat G w H) (hsel : Sel1 b (Obj.map es.toArray clock) H R) (hf : MapOf es clock f)
    (hk : ∀ es' clock' w', MapOf es' clock' (fupd f n (some v)) → Sat G w' ((b, Obj.map es'.toArray clock') :: R) → k undef w') : mput w (.map (some b)) (int n) v k := by
  have hs' := hs.sel1 hsel
  have : ∃ r, keyI (int n) es = some r := by
    cases hfn : f n with
    | none => exact ⟨_, hf.key_none hfn⟩
    | some u => obtain ⟨j, e, _, _, _, h4⟩ := hf.key_some hfn; exact ⟨_, h4⟩
  obtain ⟨r, hr⟩ := this
  obtain ⟨es', clock', he, hmo⟩ := hf.put (v := v) hr
  refine ⟨b, es.toArray, clock, r, rfl, hs'.get (.head _), by simpa using hr, ?_⟩
  have h2 := hk es' clock' _ hmo (hs'.set (.head (o' := .map es'.toArray clock')))
  rw [← he] at h2
  cases r with
  | none => exact h2
  | some p => exact h2
theorem mdel_r {b : Nat} {n : Int} (hs : Sat G w H) (hsel : Sel1 b (Obj.map es.toArray clock) H R) (hf : MapOf es clock f)
    (hk : ∀ es' w', MapOf es' clock (fupd f n none) → (f n ≠ none → es'.length + 1 = es.length) → Sat G w' ((b, Obj.map es'.toArray clock) :: R) → k (.tuple #[]) w') : mdel w (.map (some b)) (int n) k := by
  have hs' := hs.sel1 hsel
  have : ∃ r, keyI (int n) es = some r := by
    cases hfn : f n with
    | none => exact ⟨_, hf.key_none hfn⟩
    | some u => obtain ⟨j, e, _, _, _, h4⟩ := hf.key_some hfn; exact ⟨_, h4⟩
  obtain ⟨r, hr⟩ := this
  obtain ⟨es', he, hmo, hlen⟩ := hf.del hr
  refine .inr ⟨b, es.toArray, clock, r, rfl, hs'.get (.head _), by simpa using hr, ?_⟩
  have h2 := hk es' _ hmo hlen (hs'.set (.head (o' := .map es'.toArray clock)))
  rw [← he] at h2
  cases r with
  | none => exact h2
  | some p => exact h2
theorem nmap_r (hs : Sat G w H) (hk : ∀ b w', Sat G w' ((b, Obj.map ([] : List MapEntry).toArray 0) :: H) → k (.map (some b)) w') : nmap w k := hk _ _ (hs.alloc _)
theorem held_lkp {b : Nat} {zero : Value} {ok : Bool} {n : Int} (hs : Sat G w H) (hm : (b, Obj.map es.toArray clock) ∈ H) (hf : MapOf es clock f)
    (hk : k (match f n with
      | some v => if ok then .tuple #[v, .bool true] else v
      | none => if ok then .tuple #[zero, .bool false] else zero) w) : held (fun w => Sat G w H) w (fun w k => lkp w zero ok (.map (some b)) (int n) k) k :=
  ⟨hs, _, fun _ hs' => lkp_r hs' hm hf ⟨rfl, rfl⟩, hk⟩
/-! ### literals -/
theorem fill_one {v z : Value} (h : v.oneCell' = true) : Instr.fill (fun i => some (i * 1, 1)) (zeroRow 1 [z]) [(0, v)] = some #[v] := by
  have hc : v.cells = #[v] := by cases v <;> first | rfl | cases h
  simp [Instr.fill, hc, zeroRow]
theorem bldS_r {T : TypeId} {len size : Nat} {zero cs : List Value} {parts : List (Nat × Value)} (hs : Sat G w H) (hf : Instr.fill (fun i => some (i * size, size)) (zeroRow len zero) parts = some cs.toArray) (hl : len * size ≤ 2 ^ 24)
    (hk : ∀ b w', Sat G w' ((b, row T cs) :: H) → k (.slice (some ⟨b, 0, none⟩) len len) w') : bldS w T len size zero parts k :=
  ⟨hl, _, hf, hk _ _ (hs.alloc _)⟩
theorem bld_r {places : Array (Nat × Nat)} {zero cs : List Value} {parts : List (Nat × Value)} (hf : Instr.fill (places[·]?) zero.toArray parts = some cs.toArray) (hk : k (.agg cs.toArray) w) : bld w places zero.toArray parts k :=
  ⟨_, hf, hk⟩
/-- one value more at the end of a slice of one's own. -/
theorem app1_r {T : TypeId} {bytes : Nat} {z v x : Value} {xs : List Value} {Hv : List Blk} (hs : Sat G w H) (ho : Own T 1 v xs Hv) (hsel : Sel Hv H R) (hx : x.oneCell' = true) (hb : bytes ≤ 65536) (hlen : xs.length + 1 ≤ 1073741824)
    (hk : ∀ v' Hv' w', Own T 1 v' (xs ++ [x]) Hv' → Sat G w' (Hv' ++ R) → k v' w') : bldS w T 1 1 [z] [(0, x)] (fun t w => app w T 1 bytes #[z] v t k) := by
  refine bldS_r (cs := [x]) hs (fill_one hx) (by decide) fun b w' hs1 => ?_
  refine app_r (R := (b, row T [x]) :: R) hs1 ho (.cons hsel) ⟨rfl, fun j u hj => ?_⟩ (by simpa using hx) (by decide) rfl hb (by simpa using hlen) fun v' Hv' w2 ho' hs2 => hk v' Hv' w2 ho' ?_
  · rw [Addr.add_lit, Nat.zero_add]
    exact cell_row (hs1.get (.head _)) hj
  · exact ((hs2.perm List.perm_middle).tail)
theorem fill_agg {cs z : List Value} {n : Nat} (hz : z.length = n) (hc : cs.length = n) : Instr.fill (fun i => some (i * n, n)) (zeroRow 1 z) [(0, .agg cs.toArray)] = some cs.toArray := by
  have key : ∀ (l pre z : List Value), l.length = z.length → (l.zipIdx pre.length).foldl (fun acc (x : Value × Nat) => acc.setIfInBounds (0 * n + x.2) x.1) (pre ++ z).toArray = (pre ++ l).toArray := by
    intro l
    induction l with
    | nil => intro pre z hl; have hz : z = [] := (by simpa using hl.symm); subst hz; simp
    | cons x l ih =>
      intro pre z hl
      match z, hl with
      | y :: z, hl =>
        simp only [List.zipIdx_cons, List.foldl_cons, Nat.zero_mul, Nat.zero_add]
        have : ((pre ++ y :: z).toArray.setIfInBounds pre.length x) = ((pre ++ [x]) ++ z).toArray := by simp
        rw [this, show pre.length + 1 = (pre ++ [x]).length by simp]
        have := ih (pre ++ [x]) z (by simpa using hl)
        simp only [Nat.zero_mul, Nat.zero_add] at this
        rw [this]
        simp
  have hzr : zeroRow 1 z = z.toArray := by simp [zeroRow]
  simp only [Instr.fill, Value.cells, hzr, List.size_toArray, hc, hz, Nat.zero_mul, Nat.zero_add]
  rw [if_neg (by simp)]
  have := key cs [] z (by omega)
  simp only [List.nil_append, List.length_nil, Nat.zero_mul, Nat.zero_add] at this
  simpa using this
/-- one struct more at the end of a slice of one's own. -/
theorem appA_r {T : TypeId} {size bytes : Nat} {z : List Value} {v : Value} {xs cs : List Value} {Hv : List Blk} (hs : Sat G w H) (ho : Own T size v xs Hv) (hsel : Sel Hv H R) (hz : z.length = size) (hc : cs.length = size) (h1 : ∀ y ∈ cs, y.oneCell' = true) (hsz : 0 < size) (hsz' : size ≤ 65536) (hb : bytes ≤ 65536) (hlen : xs.length + size ≤ 1073741824)
    (hk : ∀ v' Hv' w', Own T size v' (xs ++ cs) Hv' → Sat G w' (Hv' ++ R) → k v' w') : bldS w T 1 size z [(0, .agg cs.toArray)] (fun t w => app w T size bytes z.toArray v t k) := by
  refine bldS_r (cs := cs) hs (fill_agg hz hc) (by omega) fun b w' hs1 => ?_
  refine app_r (R := (b, row T cs) :: R) hs1 ho (.cons hsel) ⟨by simpa using hc, fun j u hj => ?_⟩ h1 hsz (by simpa using hz) hb (by omega) fun v' Hv' w2 ho' hs2 => hk v' Hv' w2 ho' ?_
  · rw [Addr.add_lit, Nat.zero_add]
    exact cell_row (hs1.get (.head _)) hj
  · exact ((hs2.perm List.perm_middle).tail)
end
end Go.W
end
