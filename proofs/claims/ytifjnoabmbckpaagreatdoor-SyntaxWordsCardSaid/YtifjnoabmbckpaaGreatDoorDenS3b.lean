import Derived.Test.YtifjnoabmbckpaaGreatDoorDenS3
namespace Go.Den
open Go
section
variable {P : Program} {n : Nat} {w0 : World} {h0 : PHeap} {s : St} {bs : Nat → Nat} {h : PHeap} {a : Act} {w : World}

theorem splice_cons {l : List Value} {o : Nat} {v : Value} {vs : List Value} (hl : o < l.length) : splice (l.set o v) (o + 1) vs = splice l o (v :: vs) := by
  unfold splice
  have h1 : (l.set o v).take (o + 1) = l.take o ++ [v] := by
    apply List.ext_getElem?
    intro i
    rcases Nat.lt_trichotomy i o with hi | hi | hi
    · rw [List.getElem?_take, if_pos (by omega), List.getElem?_set_ne (by omega), List.getElem?_append, if_pos (by simp; omega), List.getElem?_take, if_pos hi]
    · subst hi
      rw [List.getElem?_take, if_pos (by omega), List.getElem?_set_self hl, List.getElem?_append, if_neg (by simp; omega)]
      simp [Nat.min_eq_left (Nat.le_of_lt hl)]
    · rw [List.getElem?_take, if_neg (by omega), List.getElem?_eq_none (by simp; omega)]
  have h2 : (l.set o v).drop (o + 1 + vs.length) = l.drop (o + (v :: vs).length) := by
    rw [List.drop_set_of_lt (by omega)]
    simp only [List.length_cons]
    congr 1
    omega
  rw [h1, h2]
  simp

theorem splice_nil {l : List Value} {o : Nat} : splice l o [] = l := by simp [splice]

theorem foldl_splice (off : Nat) : ∀ (vs : List Value) (k : Nat) (cs : Array Value), off + k + vs.length ≤ cs.size →
    (vs.zipIdx k).foldl (fun (cs : Array Value) (p : Value × Nat) => cs.setIfInBounds (off + p.2) p.1) cs = ⟨splice cs.toList (off + k) vs⟩
  | [], k, cs, _ => by simp [splice_nil]
  | v :: vs, k, cs, hl => by
    simp only [List.length_cons] at hl
    rw [List.zipIdx_cons, List.foldl_cons, foldl_splice off vs (k + 1) _ (by simp; omega)]
    congr 1
    simp only [Array.toList_setIfInBounds]
    rw [show off + (k + 1) = off + k + 1 by omega]
    exact splice_cons (by simp; omega)

theorem fill_step {place : Nat → Option (Nat × Nat)} {cells : List Value} {i off k : Nat} {v : Value} {rest : List (Nat × Value)} (hp : place i = some (off, k)) (hk : (cellsL v).length = k) (hl : off + k ≤ cells.length) :
    Instr.fill place ⟨cells⟩ ((i, v) :: rest) = Instr.fill place ⟨splice cells off (cellsL v)⟩ rest := by
  have hsz : v.cells.size = k := by rw [← hk]; simp [cellsL]
  have hfold : v.cells.zipIdx.foldl (fun cs (c, j) => cs.setIfInBounds (off + j) c) (⟨cells⟩ : Array Value) = ⟨splice cells off (cellsL v)⟩ := by
    have := foldl_splice off (cellsL v) 0 ⟨cells⟩ (by simp; omega)
    rw [Nat.add_zero] at this
    rw [← Array.foldl_toList, Array.toList_zipIdx]
    exact this
  simp only [Instr.fill, hp, hsz]
  rw [if_neg (by simp; omega), hfold]

theorem splice_length {l : List Value} {o : Nat} {vs : List Value} (hl : o + vs.length ≤ l.length) : (splice l o vs).length = l.length := by
  simp [splice]; omega

/-- The lowered parts say where each lies. -/
def Placed (place : Nat → Option (Nat × Nat)) : List (Nat × Operand) → List (Nat × Nat × Operand) → Prop
  | [], [] => True
  | (i, x) :: l, (off, k, y) :: m => place i = some (off, k) ∧ x = y ∧ Placed place l m
  | _, _ => False

theorem fillL_sound (r : Rel n w0 h0 s bs h a w) {place : Nat → Option (Nat × Nat)} : ∀ {ps : List (Nat × Operand)} {ls : List (Nat × Nat × Operand)} {cells : List Value} {K : List Value → Prop}, Placed place ps ls → fillL s cells ls K →
    ∃ l, K l ∧ Instr.fill place ⟨cells⟩ (ps.map fun (p : Nat × Operand) => (p.1, a.eval p.2)) = some ⟨l⟩
  | [], [], cells, K, _, hd => ⟨cells, hd, rfl⟩
  | (i, x) :: ps, (off, k, y) :: ls, cells, K, hp, hd => by
    obtain ⟨hpl, rfl, hp⟩ := hp
    unfold fillL at hd
    split at hd
    · rename_i v hv
      split at hd
      · rename_i hb
        simp only [Bool.and_eq_true] at hb
        obtain ⟨l, hK, hf⟩ := fillL_sound r hp hd
        refine ⟨l, hK, ?_⟩
        rw [List.map_cons]
        simp only [(r.vv hv).1]
        rw [fill_step hpl (Nat.eq_of_beq_eq_true hb.1) (Nat.le_of_ble_eq_true hb.2)]
        exact hf
      · exact hd.elim
    · exact hd.elim

theorem partsE_placed (k : Nat) : ∀ (ps : List (Nat × Operand)), Placed (fun i => some (i * k, k)) ps (partsE k ps)
  | [] => trivial
  | (_, _) :: l => ⟨rfl, rfl, partsE_placed k l⟩

/-- The places of a struct's fields. -/
def placesOf (P : Program) (fs : List Field) (i : Nat) : Option (Nat × Nat) :=
  match fs[i]? with
  | some f => (sizeT P f.type).map fun k => (f.offset, k)
  | none => none

theorem partsS_placed {fs : List Field} : ∀ {ps : List (Nat × Operand)} {ls : List (Nat × Nat × Operand)}, partsS P fs ps = some ls → Placed (placesOf P fs) ps ls
  | [], ls, hp => by cases hp; trivial
  | (i, x) :: l, ls, hp => by
    unfold partsS at hp
    split at hp
    · rename_i nm ty off em tg pk bo r hn hr
      split at hp
      · rename_i k hk
        cases hp
        rw [nthL_eq] at hn
        exact ⟨by simp [placesOf, hn, hk], rfl, partsS_placed hr⟩
      · cases hp
    · cases hp

theorem run_places : ∀ {fs : List Field}, sizesOk P fs = true → (fs.mapM (fun f => do pure (f.offset, ← sizeOf f.type)) : Sem (List (Nat × Nat))).run P w = .ok (fs.map fun f => (f.offset, (sizeT P f.type).getD 0)) w
  | [], _ => by simp
  | f :: fs, hs => by
    simp only [sizesOk, Bool.and_eq_true, Option.isSome_iff_exists] at hs
    obtain ⟨⟨k, hk⟩, hs⟩ := hs
    rw [List.mapM_cons]
    simp only [Sem.run_bind, sizeT_run hk, Result.andThen_ok, Sem.run_pure, run_places hs, List.map_cons, hk, Option.getD_some]

theorem places_eq {fs : List Field} (hs : sizesOk P fs = true) : (fun i => (fs.map fun f => (f.offset, (sizeT P f.type).getD 0)).toArray[i]?) = placesOf P fs := by
  funext i
  simp only [List.getElem?_toArray, List.getElem?_map, placesOf]
  cases hi : fs[i]? with
  | none => rfl
  | some f =>
    have : ∀ {l : List Field}, sizesOk P l = true → f ∈ l → (sizeT P f.type).isSome = true := by
      intro l
      induction l with
      | nil => intro _ hf; cases hf
      | cons x l ih =>
        intro hs hf
        simp only [sizesOk, Bool.and_eq_true] at hs
        cases hf with
        | head => exact hs.1
        | tail _ ht => exact ih hs.2 ht
    obtain ⟨k, hk⟩ := Option.isSome_iff_exists.1 (this hs (List.mem_of_getElem? hi))
    simp [hk]

theorem run_zeroValue {t : TypeId} {z : Value} (hz : zeroT P t = some z) : (zeroValue t).run P w = .ok z w := by
  unfold zeroT at hz
  cases hi : P.info? t with
  | none => rw [hi] at hz; cases hz
  | some i =>
    rw [hi] at hz
    have hz' : i.zero = some z := hz
    simp [zeroValue, typeInfo, program, hi, hz', Sem.run]

theorem zeroL_mk (z : Value) : (⟨zeroL z⟩ : Array Value) = z.cells := by
  rw [zeroL_eq]

theorem run_buildS {t : TypeId} {fs : Array Field} {z : Value} {parts : Array (Nat × Operand)} {l : List Value} (hu : P.underlying t = some (.struct fs)) (hz : zeroT P t = some z) (hs : sizesOk P fs.toList = true)
    (hf : Instr.fill (placesOf P fs.toList) ⟨zeroL z⟩ (parts.toList.map fun (p : Nat × Operand) => (p.1, a.eval p.2)) = some ⟨l⟩) :
    (Instr.build t (parts.map fun (i, x) => (i, a.eval x))).run P w = .ok (.agg ⟨l⟩) w := by
  unfold Instr.build
  simp only [Sem.run_bind, run_zeroValue hz, Result.andThen_ok, run_underlying hu, Array.mapM_eq_mapM_toList, Sem.run_map, run_places hs, places_eq hs]
  rw [zeroL_mk] at hf
  have e : (parts.map fun (i, x) => (i, a.eval x)).toList = parts.toList.map fun (p : Nat × Operand) => (p.1, a.eval p.2) := by simp
  rw [e, hf]
  rfl

theorem run_buildE {t e : TypeId} {m k : Nat} {z : Value} {parts : Array (Nat × Operand)} {l : List Value} (hu : P.underlying t = some (.array m e)) (hz : zeroT P t = some z) (hk : sizeT P e = some k)
    (hf : Instr.fill (fun i => some (i * k, k)) ⟨zeroL z⟩ (parts.toList.map fun (p : Nat × Operand) => (p.1, a.eval p.2)) = some ⟨l⟩) :
    (Instr.build t (parts.map fun (i, x) => (i, a.eval x))).run P w = .ok (.agg ⟨l⟩) w := by
  unfold Instr.build
  simp only [Sem.run_bind, run_zeroValue hz, Result.andThen_ok, run_underlying hu, sizeT_run hk]
  rw [zeroL_mk] at hf
  have e : (parts.map fun (i, x) => (i, a.eval x)).toList = parts.toList.map fun (p : Nat × Operand) => (p.1, a.eval p.2) := by simp
  rw [e, hf]
  rfl

theorem zerosL_get (z : List Value) : ∀ (m i : Nat), i < m * z.length → (zerosL z m)[i]? = z[i % z.length]?
  | 0, i, hi => by simp at hi
  | m + 1, i, hi => by
    unfold zerosL
    by_cases hlt : i < z.length
    · rw [List.getElem?_append_left hlt, Nat.mod_eq_of_lt hlt]
    · rw [List.getElem?_append_right (by omega), zerosL_get z m (i - z.length) (by rw [Nat.add_mul] at hi; omega)]
      congr 1
      rw [Nat.mod_eq_sub_mod (Nat.le_of_not_lt hlt)]

theorem zerosL_length (z : List Value) : ∀ m, (zerosL z m).length = m * z.length
  | 0 => by simp [zerosL]
  | m + 1 => by simp [zerosL, zerosL_length z m, Nat.add_mul]; omega

theorem zeros_eq (z : Array Value) (m : Nat) (hz : 0 < z.size) : (Array.range (m * z.size)).map (z[· % z.size]!) = ⟨zerosL z.toList m⟩ := by
  apply Array.ext'
  apply List.ext_getElem?
  intro i
  simp only [Array.toList_map, Array.toList_range, List.getElem?_map]
  by_cases hi : i < m * z.size
  · rw [zerosL_get z.toList m i (by simpa using hi), List.getElem?_range hi]
    have : i % z.size < z.size := Nat.mod_lt _ hz
    simp [this]
  · rw [List.getElem?_eq_none (by simp; omega), List.getElem?_eq_none (by rw [zerosL_length]; simp; omega)]
    rfl

theorem run_buildSlice {t e : TypeId} {m k : Nat} {z : Value} {parts : Array (Nat × Operand)} {l : List Value} (hu : P.underlying t = some (.slice e)) (hz : zeroT P e = some z) (hk : sizeT P e = some (k + 1))
    (hm : m * (k + 1) ≤ 16777216) (hzl : (zeroL z).length = k + 1)
    (hf : Instr.fill (fun i => some (i * (k + 1), k + 1)) ⟨zerosL (zeroL z) m⟩ (parts.toList.map fun (p : Nat × Operand) => (p.1, a.eval p.2)) = some ⟨l⟩) :
    (Instr.buildSlice t m (parts.map fun (i, x) => (i, a.eval x))).run P w = .ok (.slice (some ⟨w.heap.size, 0, none⟩) m m) (w.alloc (.cells ⟨l⟩ e)) := by
  have hsz : z.cells.size = k + 1 := by rw [← zeroL_mk, ← hzl]; simp
  have e2 : (parts.map fun (i, x) => (i, a.eval x)).toList = parts.toList.map fun (p : Nat × Operand) => (p.1, a.eval p.2) := by simp
  unfold Instr.buildSlice
  simp only [Sem.run_bind, run_underlying hu, Result.andThen_ok, sizeT_run hk]
  rw [if_neg (by omega)]
  by_cases h0 : m * (k + 1) = 0
  · have hm0 : m = 0 := by
      rcases Nat.mul_eq_zero.1 h0 with h | h
      · exact h
      · omega
    subst hm0
    simp only [h0, if_true, Sem.run_pure, Result.andThen_ok, Sem.run_bind]
    have hr : (Array.range 0).map ((#[] : Array Value)[· % (#[] : Array Value).size]!) = ⟨zerosL (zeroL z) 0⟩ := by apply Array.ext'; simp [zerosL]
    rw [hr, e2, hf]
    simp [newRow, newObj, Sem.run]
  · have hr : (Array.range (m * (k + 1))).map (z.cells[· % z.cells.size]!) = ⟨zerosL (zeroL z) m⟩ := by
      have := zeros_eq z.cells m (by omega)
      rw [hsz] at this
      rw [hsz, this, zeroL_eq]
    simp only [h0, if_false, Sem.run_bind, run_zeroValue hz, Result.andThen_ok, Sem.run_pure]
    rw [hr, e2, hf]
    simp [newRow, newObj, Sem.run]
end
end Go.Den
