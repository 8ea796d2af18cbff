import Derived.Test.YtifjnoabmbckpaaGreatDoorDenS3b
import Derived.Laws.IdiomStrings
import Derived.Laws.Slices
import Derived.Laws.Strings2
namespace Go.Den
open Go
section
variable {P : Program} {n : Nat} {w0 : World} {h0 : PHeap} {s : St} {bs : Nat → Nat} {h : PHeap} {a : Act} {w : World} {o : Oper}

theorem run_idxS {t : TypeId} {x i : Operand} {l : List UInt8} {k : IntKind} {j : Int} {c : UInt8} (hop : o.op = .index t x i) (hu : P.underlying t = some .string) (hx : a.eval x = .string ⟨⟨l⟩⟩) (hi : a.eval i = .int k j)
    (h0 : 0 ≤ j) (hc : l[j.toNat]? = some c) : (execOp a.eval o).run P w = .ok (.value (byteV c)) w := by
  obtain ⟨hlt, hget⟩ := List.getElem?_eq_some_iff.1 hc
  have hsz : (ByteArray.mk ⟨l⟩).size = l.length := rfl
  have hr := run_index_string (P := P) w t ⟨⟨l⟩⟩ k j hu
  rw [dif_pos ⟨h0, by rw [hsz]; omega⟩] at hr
  have hb : (ByteArray.mk ⟨l⟩)[j.toNat]'(by rw [hsz]; omega) = c := hget
  rw [hb] at hr
  simp only [execOp, hop, hx, hi, Sem.run_bind, hr, Result.andThen_ok, Sem.run_pure, byteV]

theorem bnd_sound (r : Rel n w0 h0 s bs h a w) {oo : Option Operand} {d : Int} {K : Int → Prop} (hd : bnd s oo d K) : (oo = none ∧ K d) ∨ ∃ x k i, oo = some x ∧ a.eval x = .int k i ∧ K i := by
  unfold bnd at hd
  split at hd
  · exact .inl ⟨rfl, hd⟩
  · split at hd
    · rename_i x _ k i hx
      exact .inr ⟨x, k, i, rfl, (r.vv hx).1, hd⟩
    · exact hd.elim

theorem run_sliceS (r : Rel n w0 h0 s bs h a w) {t : TypeId} {x : Operand} {lo hi : Option Operand} {l : List UInt8} {K : Value → Prop} (hop : o.op = .slice t x lo hi none) (hu : P.underlying t = some .string) (hx : a.eval x = .string ⟨⟨l⟩⟩)
    (hd : bnd s lo 0 fun a => bnd s hi l.length fun b => (0 ≤ a ∧ a ≤ b ∧ b ≤ l.length) ∧ K (.string ⟨⟨(l.drop a.toNat).take (b.toNat - a.toNat)⟩⟩)) :
    ∃ v, K v ∧ ∀ w', (execOp a.eval o).run P w' = .ok (.value v) w' := by
  have hsz : (ByteArray.mk ⟨l⟩).size = l.length := rfl
  have hex : ∀ i j : Nat, (ByteArray.mk ⟨l⟩).extract i j = ⟨⟨(l.drop i).take (j - i)⟩⟩ := fun i j => ByteArray.extract_mk l i j
  rcases bnd_sound r hd with ⟨rfl, hd1⟩ | ⟨x1, k1, i1, rfl, he1, hd1⟩
  · rcases bnd_sound r hd1 with ⟨rfl, ⟨h1, h2, h3⟩, hk⟩ | ⟨x2, k2, i2, rfl, he2, ⟨h1, h2, h3⟩, hk⟩
    · refine ⟨_, hk, fun w' => ?_⟩
      simp [execOp, hop, hx, Instr.sliceAt, run_underlying hu, Instr.slice, Instr.sliceBounds]
    · refine ⟨_, hk, fun w' => ?_⟩
      have hb : 0 ≤ i2 ∧ i2 ≤ (l.length : Int) := ⟨by omega, h3⟩
      simp [execOp, hop, hx, he2, Instr.sliceAt, run_underlying hu, Instr.slice, Instr.sliceBounds, Instr.sliceBound, asIntOf, hex, hsz, hb]
  · rcases bnd_sound r hd1 with ⟨rfl, ⟨h1, h2, h3⟩, hk⟩ | ⟨x2, k2, i2, rfl, he2, ⟨h1, h2, h3⟩, hk⟩
    · refine ⟨_, hk, fun w' => ?_⟩
      have hb : 0 ≤ i1 ∧ i1 ≤ (l.length : Int) := ⟨h1, h2⟩
      simp [execOp, hop, hx, he1, Instr.sliceAt, run_underlying hu, Instr.slice, Instr.sliceBounds, Instr.sliceBound, asIntOf, hex, hsz, hb]
    · refine ⟨_, hk, fun w' => ?_⟩
      have := run_slice_string (P := P) w' t ⟨⟨l⟩⟩ k1 k2 i1 i2 hu h1 h2 (by rw [hsz]; exact h3)
      simp [execOp, hop, hx, he1, he2, Instr.sliceAt, run_underlying hu, this, hex]

theorem elem_of {t e : TypeId} (hu : P.underlying t = some (.slice e)) : P.elem t = e ∧ P.underlying t = some (.slice (P.elem t)) := by
  have : P.elem t = e := by simp [Program.elem, hu]
  exact ⟨this, by rw [this]; exact hu⟩

theorem sliced_some {b o k i j c : Nat} : ∃ o', ((i < c ∨ i = 0) → o' = o + i * k) ∧ sliced (some ⟨b, o, none⟩) i j c k = .slice (some ⟨b, o', none⟩) (j - i) (c - i) := by
  unfold sliced
  by_cases hc : c = i
  · refine ⟨o, fun h => ?_, by simp [hc]⟩
    rcases h with h | h
    · omega
    · simp [h]
  · exact ⟨o + i * k, fun _ => rfl, by simp [hc, addNone]⟩

theorem run_sliceL (r : Rel n w0 h0 s bs h a w) {t e : TypeId} {x : Operand} {lo hi : Option Operand} {b off k m c : Nat} {K : Value → Prop} (hop : o.op = .slice t x lo hi none) (hu : P.underlying t = some (.slice e)) (hk : sizeT P e = some k)
    (hx : a.eval x = .slice (some ⟨b, off, none⟩) m c)
    (hd : bnd s lo 0 fun i => bnd s hi m fun j => (0 ≤ i ∧ i ≤ j ∧ j ≤ c) ∧ ∀ o', ((i.toNat < c ∨ i.toNat = 0) → o' = off + i.toNat * k) → K (.slice (some ⟨b, o', none⟩) (j.toNat - i.toNat) (c - i.toNat))) :
    ∃ v, K v ∧ ∀ w', (execOp a.eval o).run P w' = .ok (.value v) w' := by
  obtain ⟨he, hu'⟩ := elem_of hu
  have hsz : ∀ w', (sizeOf (P.elem t)).run P w' = .ok k w' := fun w' => by rw [he]; exact sizeT_run hk
  have fin : ∀ i j : Nat, (∀ o', ((i < c ∨ i = 0) → o' = off + i * k) → K (.slice (some ⟨b, o', none⟩) (j - i) (c - i))) → (∀ w', (execOp a.eval o).run P w' = .ok (.value (sliced (some ⟨b, off, none⟩) i j c k)) w') →
      ∃ v, K v ∧ ∀ w', (execOp a.eval o).run P w' = .ok (.value v) w' := fun i j hK hr => by
    obtain ⟨o', h1, h2⟩ := sliced_some (b := b) (o := off) (k := k) (i := i) (j := j) (c := c)
    exact ⟨_, hK o' h1, fun w' => by rw [hr w', h2]⟩
  rcases bnd_sound r hd with ⟨rfl, hd1⟩ | ⟨x1, k1, i1, rfl, he1, hd1⟩
  · rcases bnd_sound r hd1 with ⟨rfl, ⟨h1, h2, h3⟩, hK⟩ | ⟨x2, k2, i2, rfl, he2, ⟨h1, h2, h3⟩, hK⟩
    · refine fin 0 m (by simpa using hK) fun w' => ?_
      simp [execOp, hop, hx, Instr.sliceAt, run_underlying hu, run_slice_all w' t _ m c hu', hsz]
    · refine fin 0 i2.toNat (by simpa using hK) fun w' => ?_
      simp [execOp, hop, hx, he2, Instr.sliceAt, run_underlying hu, run_slice_h w' t _ m c hu' k2 i2 (by omega) h3, hsz]
  · rcases bnd_sound r hd1 with ⟨rfl, ⟨h1, h2, h3⟩, hK⟩ | ⟨x2, k2, i2, rfl, he2, ⟨h1, h2, h3⟩, hK⟩
    · refine fin i1.toNat m (by simpa using hK) fun w' => ?_
      simp [execOp, hop, hx, he1, Instr.sliceAt, run_underlying hu, run_slice_l w' t _ m c hu' k1 i1 h1 h2, hsz]
    · refine fin i1.toNat i2.toNat (by simpa using hK) fun w' => ?_
      simp [execOp, hop, hx, he1, he2, Instr.sliceAt, run_underlying hu, run_slice_lh w' t _ m c hu' k1 k2 i1 i2 h1 h2 h3, hsz]

theorem run_sliceNil (r : Rel n w0 h0 s bs h a w) {t e : TypeId} {x : Operand} {lo hi : Option Operand} {k : Nat} {K : Value → Prop} (hop : o.op = .slice t x lo hi none) (hu : P.underlying t = some (.slice e)) (hk : sizeT P e = some k)
    (hx : a.eval x = .slice none 0 0) (hd : bnd s lo 0 fun i => bnd s hi 0 fun j => (i = 0 ∧ j = 0) ∧ K (.slice none 0 0)) :
    ∃ v, K v ∧ ∀ w', (execOp a.eval o).run P w' = .ok (.value v) w' := by
  obtain ⟨he, hu'⟩ := elem_of hu
  have hsz : ∀ w', (sizeOf (P.elem t)).run P w' = .ok k w' := fun w' => by rw [he]; exact sizeT_run hk
  rcases bnd_sound r hd with ⟨rfl, hd1⟩ | ⟨x1, k1, i1, rfl, he1, hd1⟩
  · rcases bnd_sound r hd1 with ⟨rfl, _, hK⟩ | ⟨x2, k2, i2, rfl, he2, ⟨h1, h2⟩, hK⟩
    · refine ⟨_, hK, fun w' => ?_⟩
      simp [execOp, hop, hx, Instr.sliceAt, run_underlying hu, run_slice_all w' t _ 0 0 hu', hsz, sliced]
    · subst h2
      refine ⟨_, hK, fun w' => ?_⟩
      simp [execOp, hop, hx, he2, Instr.sliceAt, run_underlying hu, run_slice_h w' t none 0 0 hu' k2 0 (by omega) (by omega), hsz, sliced]
  · rcases bnd_sound r hd1 with ⟨rfl, ⟨h1, _⟩, hK⟩ | ⟨x2, k2, i2, rfl, he2, ⟨h1, h2⟩, hK⟩
    · subst h1
      refine ⟨_, hK, fun w' => ?_⟩
      simp [execOp, hop, hx, he1, Instr.sliceAt, run_underlying hu, run_slice_l w' t none 0 0 hu' k1 0 (by omega) (by omega), hsz, sliced]
    · subst h1 h2
      refine ⟨_, hK, fun w' => ?_⟩
      simp [execOp, hop, hx, he1, he2, Instr.sliceAt, run_underlying hu, run_slice_lh w' t none 0 0 hu' k1 k2 0 0 (by omega) (by omega) (by omega), hsz, sliced]

theorem toList_mk (l : List UInt8) : (ByteArray.mk ⟨l⟩).toList = l := by rw [ByteArray.toList_eq]

theorem append_mk (l m : List UInt8) : (ByteArray.mk ⟨l⟩) ++ (ByteArray.mk ⟨m⟩) = ByteArray.mk ⟨l ++ m⟩ := by
  have : ((ByteArray.mk ⟨l⟩) ++ (ByteArray.mk ⟨m⟩)).data = ⟨l ++ m⟩ := by
    apply Array.ext'
    simp
  cases hx : (ByteArray.mk ⟨l⟩) ++ (ByteArray.mk ⟨m⟩) with
  | mk d => rw [hx] at this; simp only at this; rw [this]

theorem run_addS {t u : TypeId} {x y : Operand} {l m : List UInt8} (hop : o.op = .binOp .add t x y u) (hx : a.eval x = .string ⟨⟨l⟩⟩) (hy : a.eval y = .string ⟨⟨m⟩⟩) (hlen : l.length + m.length ≤ 9223372036854775807) :
    (execOp a.eval o).run P w = .ok (.value (.string ⟨⟨l ++ m⟩⟩)) w := by
  have h1 : (ByteArray.mk ⟨l⟩).size = l.length := rfl
  have h2 : (ByteArray.mk ⟨m⟩).size = m.length := rfl
  have hmax : IntKind.i64.max = 9223372036854775807 := rfl
  have h3 : ¬ ((((ByteArray.mk ⟨l⟩).size + (ByteArray.mk ⟨m⟩).size : Nat) : Int) > IntKind.i64.max) := by
    rw [h1, h2, hmax]; omega
  have hrun : (Op.stringOp .add ⟨⟨l⟩⟩ ⟨⟨m⟩⟩).run P w = .ok (.string ⟨⟨l ++ m⟩⟩) w := by
    show (if (((ByteArray.mk ⟨l⟩).size + (ByteArray.mk ⟨m⟩).size : Nat) : Int) > IntKind.i64.max then unsupported (.resourceLimit "string concatenation: a sum of the lengths that is no int") else pure (Value.string (ByteArray.mk ⟨l⟩ ++ ByteArray.mk ⟨m⟩)) : Sem Value).run P w = _
    rw [if_neg h3, append_mk]; rfl
  simp only [execOp, hop, hx, hy, binOp, eqGuard, Sem.run_bind, Bool.not_false, if_true, Sem.run_pure, Result.andThen_ok, hrun]

theorem run_eqS {t u : TypeId} {x y : Operand} {l m : List UInt8} (hop : o.op = .binOp .eql t x y u) (hx : a.eval x = .string ⟨⟨l⟩⟩) (hy : a.eval y = .string ⟨⟨m⟩⟩) :
    (execOp a.eval o).run P w = .ok (.value (.bool (l == m))) w := by
  simp [execOp, hop, hx, hy, eqGuard, binOp, Op.stringOp]

theorem run_neqS {t u : TypeId} {x y : Operand} {l m : List UInt8} (hop : o.op = .binOp .neq t x y u) (hx : a.eval x = .string ⟨⟨l⟩⟩) (hy : a.eval y = .string ⟨⟨m⟩⟩) :
    (execOp a.eval o).run P w = .ok (.value (.bool (!(l == m)))) w := by
  simp [execOp, hop, hx, hy, eqGuard, binOp, Op.stringOp]

theorem run_bytesS {src dst e : TypeId} {x : Operand} {b off c : Nat} {l : List UInt8} (hop : o.op = .convert src dst x) (hs : P.underlying src = some (.slice e)) (he : P.underlying e = some (.int .u8)) (hd : P.underlying dst = some .string)
    (hx : a.eval x = .slice (some ⟨b, off, none⟩) l.length c) (hsub : Sub w h) (hr : h.row b off (l.map byteV)) : (execOp a.eval o).run P w = .ok (.value (.string ⟨⟨l⟩⟩)) w := by
  have := run_convert_bytes_back (P := P) w src dst e ⟨b, off, none⟩ c l hs he hd (fun j hj => hsub.row hr j _ (by simp [List.getElem?_eq_getElem hj, byteV]))
  simp [execOp, hop, hx, this]

theorem run_bytesNil {src dst e : TypeId} {x : Operand} {m c : Nat} (hop : o.op = .convert src dst x) (hs : P.underlying src = some (.slice e)) (he : P.underlying e = some (.int .u8)) (hd : P.underlying dst = some .string)
    (hx : a.eval x = .slice none m c) : (execOp a.eval o).run P w = .ok (.value (.string ⟨⟨[]⟩⟩)) w := by
  simp [execOp, hop, hx, run_convert_bytes_string w src dst e none m c hs he hd, Conv.bytesToString]
  rfl
end
end Go.Den
