import Derived.Test.YtifjnoabmbckpaaGreatDoorDenS3c
namespace Go.Den
open Go
section
variable {P : Program} {n : Nat} {w0 : World} {h0 : PHeap} {s : St} {bs : Nat → Nat} {h : PHeap} {a : Act} {w : World}
variable {K : SV → St → PHeap → Prop} {next : Act → World → Prop} {Q : Exit → Act → World → Prop} {o : Oper}

theorem noLoc {v : Value} {m : Nat} : ∀ i off, SV.val v = .loc i off → i < m := fun _ _ e => by cases e

theorem sound_nilCheck {x : Operand} (hop : o.op = .nilCheck x) (r : Rel n w0 h0 s bs h a w) (hd : denOp P (.nilCheck x) s h K)
    (hn : Nxt n w0 h0 s bs a K fun v => next (a.put o.dst v)) : o.wp P a w next Q := by
  simp only [denOp] at hd
  split at hd
  · rename_i i off hx
    have hrun : (execOp a.eval o).run P w = .ok (.value (a.eval x)) w := by simp [execOp, hop, (r.evloc hx).1]
    exact wp_of_run hrun (hn _ s h bs _ w hd (by rw [(r.evloc hx).1]; rfl) r (Agree.refl bs) (Nat.le_refl _) (fun _ _ e => by cases e; exact (r.evloc hx).2))
  · rename_i ad hx
    have hrun : (execOp a.eval o).run P w = .ok (.value (.pointer (some ad))) w := by simp [execOp, hop, (r.vv hx).1]
    exact wp_of_run hrun (hn _ s h bs _ w hd rfl r (Agree.refl bs) (Nat.le_refl _) noLoc)
  · rename_i f u v hx
    have hrun : (execOp a.eval o).run P w = .ok (.value (.func (.func f) u v)) w := by simp [execOp, hop, (r.vv hx).1]
    exact wp_of_run hrun (hn _ s h bs _ w hd rfl r (Agree.refl bs) (Nat.le_refl _) noLoc)
  · exact hd.elim

theorem run_fieldAddr {t : TypeId} {x : Operand} {f k b off : Nat} (hop : o.op = .fieldAddr t x f) (hf : fieldOff P t f = some k) (hx : a.eval x = .pointer (some ⟨b, off, none⟩)) :
    (execOp a.eval o).run P w = .ok (.value (.pointer (some ⟨b, off + k, none⟩))) w := by
  unfold fieldOff at hf
  split at hf
  · rename_i fs hu
    rw [nthL_eq] at hf
    split at hf
    · rename_i nm ty fo em tg pk bo hfd
      split at hf
      · rename_i m hm
        cases hf
        have hsz := sizeT_run (w := w) hm
        have hfd' : fs[f]? = some ⟨nm, ty, k, em, tg, pk, bo⟩ := by simpa using hfd
        simp [execOp, hop, hx, Instr.fieldAt, run_underlying hu, hfd', Instr.sureAddr, fieldPlace, hsz, addNone]
      · cases hf
    · cases hf
  · cases hf

theorem sound_fieldAddr {t : TypeId} {x : Operand} {f k : Nat} (hop : o.op = .fieldAddr t x f) (hf : fieldOff P t f = some k) (r : Rel n w0 h0 s bs h a w) (hd : denOp P (.fieldAddr k x) s h K)
    (hn : Nxt n w0 h0 s bs a K fun v => next (a.put o.dst v)) : o.wp P a w next Q := by
  simp only [denOp] at hd
  split at hd
  · rename_i i off hx
    exact wp_of_run (run_fieldAddr hop hf (r.evloc hx).1) (hn _ s h bs _ w hd rfl r (Agree.refl bs) (Nat.le_refl _) (fun _ _ e => by cases e; exact (r.evloc hx).2))
  · rename_i b off hx
    exact wp_of_run (run_fieldAddr hop hf (r.vv hx).1) (hn _ s h bs _ w hd rfl r (Agree.refl bs) (Nat.le_refl _) noLoc)
  · exact hd.elim

theorem run_indexAddr {t : TypeId} {x ix : Operand} {k b off m c : Nat} {ik : IntKind} {i : Int} (hop : o.op = .indexAddr t x ix) (hf : elemSize P t = some k) (hx : a.eval x = .slice (some ⟨b, off, none⟩) m c)
    (hi : a.eval ix = .int ik i) (h0 : 0 ≤ i) (h1 : i < m) : (execOp a.eval o).run P w = .ok (.value (.pointer (some ⟨b, off + i.toNat * k, none⟩))) w := by
  unfold elemSize at hf
  split at hf
  · rename_i e hu
    have hsz := sizeT_run (w := w) hf
    simp [execOp, hop, hx, hi, Instr.indexAt, run_underlying hu, asIntOf, hsz, h0, h1, addNone]
  · cases hf

theorem sound_indexAddr {t : TypeId} {x ix : Operand} {k : Nat} (hop : o.op = .indexAddr t x ix) (hf : elemSize P t = some k) (r : Rel n w0 h0 s bs h a w) (hd : denOp P (.indexAddr k x ix) s h K)
    (hn : Nxt n w0 h0 s bs a K fun v => next (a.put o.dst v)) : o.wp P a w next Q := by
  simp only [denOp] at hd
  split at hd
  · rename_i b off m c ik i hx hi
    exact wp_of_run (run_indexAddr hop hf (r.vv hx).1 (r.vv hi).1 hd.1.1 hd.1.2) (hn _ s h bs _ w hd.2 rfl r (Agree.refl bs) (Nat.le_refl _) noLoc)
  · exact hd.elim

theorem run_indexArr {t : TypeId} {x ix : Operand} {m k b off : Nat} {ik : IntKind} {i : Int} (hop : o.op = .indexAddr t x ix) (hf : arrSize P t = some (m, k)) (hx : a.eval x = .pointer (some ⟨b, off, none⟩))
    (hi : a.eval ix = .int ik i) (h0 : 0 ≤ i) (h1 : i < m) : (execOp a.eval o).run P w = .ok (.value (.pointer (some ⟨b, off + i.toNat * k, none⟩))) w := by
  unfold arrSize at hf
  split at hf
  · rename_i m' e hu
    split at hf
    · rename_i k' hk
      cases hf
      have hsz := sizeT_run (w := w) hk
      simp [execOp, hop, hx, hi, Instr.indexAt, run_underlying hu, asIntOf, Instr.sureAddr, hsz, h0, h1, addNone]
    · cases hf
  · cases hf

theorem sound_indexArr {t : TypeId} {x ix : Operand} {m k : Nat} (hop : o.op = .indexAddr t x ix) (hf : arrSize P t = some (m, k)) (r : Rel n w0 h0 s bs h a w) (hd : denOp P (.indexArr m k x ix) s h K)
    (hn : Nxt n w0 h0 s bs a K fun v => next (a.put o.dst v)) : o.wp P a w next Q := by
  simp only [denOp] at hd
  split at hd
  · rename_i b off ik i hx hi
    exact wp_of_run (run_indexArr hop hf (r.vv hx).1 (r.vv hi).1 hd.1.1 hd.1.2) (hn _ s h bs _ w hd.2 rfl r (Agree.refl bs) (Nat.le_refl _) noLoc)
  · exact hd.elim

theorem sound_len {c : Call} {x : Operand} {t : TypeId} {str : Bool} (hop : o.op = .call c) (hb : c.callee = .builtin .len) (hargs : c.args.toList = [x]) (hts : c.argTypes.toList = [t]) (hl : lenable P t = some str)
    (r : Rel n w0 h0 s bs h a w) (hd : denOp P (.len str x) s h K)
    (hn : Nxt n w0 h0 s bs a K fun v => next (a.put o.dst v)) : o.wp P a w next Q := by
  have ha : c.args = #[x] := by rw [← hargs]
  have ht : c.argTypes = #[t] := by rw [← hts]
  unfold lenable at hl
  split at hl
  · rename_i e hu
    cases hl
    simp only [denOp] at hd
    split at hd
    · rename_i b m cp hx
      have hx' := (r.vv hx).1
      have hrun : (execOp a.eval o).run P w = .ok (.value (.int .i64 m)) w := by
        simp [execOp, hop, resolve, hb, ha, ht, invoke, builtin, Builtin.len_, run_underlying hu, hx', goInt]
      exact wp_of_run hrun (hn _ s h bs _ w hd rfl r (Agree.refl bs) (Nat.le_refl _) noLoc)
    · exact hd.elim
  · rename_i hu
    cases hl
    simp only [denOp] at hd
    split at hd
    · rename_i b hx
      have hx' := (r.vv hx).1
      have hrun : (execOp a.eval o).run P w = .ok (.value (.int .i64 b.length)) w := by
        simp [execOp, hop, resolve, hb, ha, ht, invoke, builtin, Builtin.len_, run_underlying hu, hx', goInt]
        rfl
      exact wp_of_run hrun (hn _ s h bs _ w hd rfl r (Agree.refl bs) (Nat.le_refl _) noLoc)
    · exact hd.elim
  · cases hl

theorem run_callOp {c : Call} {f : Operand} {g : FuncId} {first captured : Array Value} (hop : o.op = .call c) (hc : c.callee = .value f) (hf : a.eval f = .func (.func g) first captured) :
    (execOp a.eval o).run P w = (callFunc g (first ++ c.args.map a.eval ++ captured)).run P w := by
  simp [execOp, hop, resolve, hc, Deferred.ofValue, hf, invoke]

theorem upon_of_uponR {R : Value → World → Prop} {rr : Result Next} (hr : uponR P R rr) (hn : ∀ v w', R v w' → next (a.put o.dst v) w') : o.upon P a next Q rr := by
  unfold uponR at hr
  split at hr
  · exact hn _ _ hr
  · refine Calls.mono hr fun e w' he => ?_
    cases e with
    | returned v => exact hn _ _ he
    | panicked c => exact he.elim
    | outgrown => exact he.elim
  · exact hr.elim

theorem sound_call {c : Call} {f : Operand} (hop : o.op = .call c) (hc : c.callee = .value f) (r : Rel n w0 h0 s bs h a w) (hd : denOp P (.call f c.args.toList) s h K)
    (hn : Nxt n w0 h0 s bs a K fun v => next (a.put o.dst v)) : o.wp P a w next Q := by
  simp only [denOp] at hd
  split at hd
  · rename_i g first captured hx
    split at hd
    · rename_i hall
      have hargs : c.args.map a.eval = (vals s c.args.toList).toArray := by
        apply Array.ext'
        rw [Array.toList_map]; exact r.vals hall
      have hx' := (r.vv hx).1
      unfold Oper.wp
      rw [run_callOp hop hc hx', hargs]
      have := hd w r.sub
      unfold CallR at this
      have e : (first.toList ++ vals s c.args.toList ++ captured.toList).toArray = first ++ (vals s c.args.toList).toArray ++ captured := by
        apply Array.ext'
        simp
      rw [e] at this
      refine upon_of_uponR this fun v w' hw => ?_
      obtain ⟨h', hk, hs, hkeep⟩ := hw
      exact hn _ s h' bs _ w' hk rfl (r.step hs hkeep) (Agree.refl bs) (Nat.le_refl _) noLoc
    · exact hd.elim
  · exact hd.elim

theorem execOp_vv (r : Rel n w0 h0 s bs h a w) (hs : ∀ cs b, o.op ≠ .select cs b) (hall : allVal s o.op.operands.toList = true) : execOp a.eval o = execOp s.vv (mkO o.op o.type) :=
  (execOp_congr o hs fun x hx => r.allVal hall x (by simpa using hx)).trans rfl

theorem sound_puref (hs : ∀ cs b, o.op ≠ .select cs b) (r : Rel n w0 h0 s bs h a w) (hd : denOp P (.puref o.op o.type) s h K)
    (hn : Nxt n w0 h0 s bs a K fun v => next (a.put o.dst v)) : o.wp P a w next Q := by
  simp only [denOp] at hd
  split at hd
  · rename_i hall
    obtain ⟨v, hv, hk⟩ := hd
    have hrun := hv w
    rw [← execOp_vv r hs hall] at hrun
    exact wp_of_run hrun (hn _ s h bs _ w hk rfl r (Agree.refl bs) (Nat.le_refl _) noLoc)
  · exact hd.elim

theorem sound_pure (hs : ∀ cs b, o.op ≠ .select cs b) (r : Rel n w0 h0 s bs h a w) (hd : denOp P (.pure o.op o.type) s h K)
    (hn : Nxt n w0 h0 s bs a K fun v => next (a.put o.dst v)) : o.wp P a w next Q := by
  refine sound_puref hs r (K := K) ?_ hn
  simp only [denOp] at hd ⊢
  split at hd
  · split at hd
    · rename_i v hv
      exact ⟨v, pureVal_run _ hv, hd⟩
    · exact hd.elim
  · exact hd.elim

theorem sound_raw (hs : ∀ cs b, o.op ≠ .select cs b) (r : Rel n w0 h0 s bs h a w) (hd : denOp P (.raw o.op o.type) s h K)
    (hn : Nxt n w0 h0 s bs a K fun v => next (a.put o.dst v)) : o.wp P a w next Q := by
  simp only [denOp] at hd
  split at hd
  · rename_i hall
    obtain ⟨m, v, w', h', hrun, hm, hk, hsub, hkeep⟩ := hd w r.sub
    rw [← execOp_vv r hs hall] at hrun
    have hnext := hn _ s h' bs v w' hk rfl (r.step hsub hkeep) (Agree.refl bs) (Nat.le_refl _) noLoc
    rcases hm with rfl | ⟨rfl, rfl⟩
    · exact wp_of_run hrun hnext
    · exact wp_of_skip hrun hnext
  · exact hd.elim

theorem run_conv {src dst : TypeId} {x : Operand} {k1 k k2 : IntKind} {i : Int} (hop : o.op = .convert src dst x) (h1 : P.underlying src = some (.int k1)) (h2 : P.underlying dst = some (.int k)) (hx : a.eval x = .int k2 i) :
    (execOp a.eval o).run P w = .ok (.value (.int k (k.wrap i))) w := by
  simp [execOp, hop, convert, run_underlying h1, run_underlying h2, hx, Conv.intToInt]

theorem sound_conv {src dst : TypeId} {x : Operand} {k1 k : IntKind} (hop : o.op = .convert src dst x) (h1 : P.underlying src = some (.int k1)) (h2 : P.underlying dst = some (.int k)) (r : Rel n w0 h0 s bs h a w)
    (hd : denOp P (.conv k x) s h K) (hn : Nxt n w0 h0 s bs a K fun v => next (a.put o.dst v)) : o.wp P a w next Q := by
  simp only [denOp] at hd
  split at hd
  · rename_i k2 i hx
    exact wp_of_run (run_conv hop h1 h2 (r.vv hx).1) (hn _ s h bs _ w hd rfl r (Agree.refl bs) (Nat.le_refl _) noLoc)
  · exact hd.elim

/-- What a struct or array literal lowers to. -/
theorem lowBuild {t : TypeId} {parts : Array (Nat × Operand)} {esc : Nat → Bool} {so : SOp} (hop : o.op = .build t parts) (hl : lowOp P esc o.dst o.op o.type = some so) (r : Rel n w0 h0 s bs h a w) :
    so = .bad ∨ ∃ z ps, so = .build z ps ∧ ∀ {K : List Value → Prop}, fillL s z ps K → ∃ l, K l ∧ ∀ w', (execOp a.eval o).run P w' = .ok (.value (.agg ⟨l⟩)) w' := by
  simp only [lowOp, hop] at hl
  split at hl
  · rename_i fs z hu hz
    split at hl
    · rename_i ps hs hps
      cases hl
      refine .inr ⟨_, _, rfl, fun hd => ?_⟩
      obtain ⟨l, hK, hf⟩ := fillL_sound r (partsS_placed hps) hd
      exact ⟨l, hK, fun w' => by simp [execOp, hop, run_buildS hu hz hs hf]⟩
    · cases hl; exact .inl rfl
  · rename_i m e z hu hz
    split at hl
    · rename_i k hk
      cases hl
      refine .inr ⟨_, _, rfl, fun hd => ?_⟩
      obtain ⟨l, hK, hf⟩ := fillL_sound r (partsE_placed k _) hd
      exact ⟨l, hK, fun w' => by simp [execOp, hop, run_buildE hu hz hk hf]⟩
    · cases hl; exact .inl rfl
  · cases hl; exact .inl rfl

theorem lowBuildSlice {t : TypeId} {m : Nat} {parts : Array (Nat × Operand)} {esc : Nat → Bool} {so : SOp} (hop : o.op = .buildSlice t m parts) (hl : lowOp P esc o.dst o.op o.type = some so) (r : Rel n w0 h0 s bs h a w) :
    so = .bad ∨ ∃ e z ps, so = .buildSlice e m z ps ∧ ∀ {K : List Value → Prop}, fillL s z ps K → ∃ l, K l ∧ (execOp a.eval o).run P w = .ok (.value (.slice (some ⟨w.heap.size, 0, none⟩) m m)) (w.alloc (.cells ⟨l⟩ e)) := by
  simp only [lowOp, hop] at hl
  split at hl
  · rename_i e hu
    split at hl
    · rename_i k z hk hz
      split at hl
      · rename_i hb
        simp only [Bool.and_eq_true] at hb
        cases hl
        refine .inr ⟨_, _, _, rfl, fun hd => ?_⟩
        obtain ⟨l, hK, hf⟩ := fillL_sound r (partsE_placed (k + 1) _) hd
        exact ⟨l, hK, by simp [execOp, hop, run_buildSlice hu hz hk (Nat.le_of_ble_eq_true hb.1) (Nat.eq_of_beq_eq_true hb.2) hf]⟩
      · cases hl; exact .inl rfl
    · cases hl; exact .inl rfl
  · cases hl; exact .inl rfl

theorem lowField {t : TypeId} {x : Operand} {f : Nat} {esc : Nat → Bool} {so : SOp} (hop : o.op = .field t x f) (hl : lowOp P esc o.dst o.op o.type = some so) :
    so = .bad ∨ ∃ agg off k, so = .field agg off k x ∧ ∀ l w', a.eval x = .agg ⟨l⟩ → off + k ≤ l.length → (execOp a.eval o).run P w' = .ok (.value (packV agg ((l.drop off).take k))) w' := by
  simp only [lowOp, hop] at hl
  split at hl
  · rename_i fs hu
    rw [nthL_eq] at hl
    split at hl
    · rename_i nm ft off em tg pk bo hfd
      have hfd' : fs[f]? = some ⟨nm, ft, off, em, tg, pk, bo⟩ := by simpa using hfd
      split at hl
      · rename_i k ha hz
        cases hl
        refine .inr ⟨_, _, _, rfl, fun l w' hx hle => ?_⟩
        simp only [execOp, hop, hx, Instr.field, part, asAgg, Sem.run_bind, run_underlying hu, Result.andThen_ok, hfd', Sem.run_pure, isAggT_true ha, sizeT_run hz, if_true, packV]
        congr 4
        simp [Nat.add_sub_cancel_left, List.take_drop]
      · rename_i k ha hz
        cases hl
        refine .inr ⟨_, _, _, rfl, fun l w' hx hle => ?_⟩
        have hlt : off < l.length := by omega
        have hdr : (l.drop off).take 1 = [l[off]] := by
          rw [List.drop_eq_getElem_cons hlt]; rfl
        rw [hdr]
        simp [execOp, hop, hx, Instr.field, part, asAgg, run_underlying hu, hfd', isAggT_false ha, packV, hlt]
      · cases hl; exact .inl rfl
    · cases hl; exact .inl rfl
  · cases hl; exact .inl rfl

theorem denOp_sound {esc : Nat → Bool} {so : SOp} (hl : lowOp P esc o.dst o.op o.type = some so) (r : Rel n w0 h0 s bs h a w) (hd : denOp P so s h K)
    (hn : Nxt n w0 h0 s bs a K fun v => next (a.put o.dst v)) : o.wp P a w next Q := by
  cases hop : o.op with
  | move x => simp only [lowOp, hop] at hl; cases hl; exact sound_mv (.inl hop) r hd hn
  | assign x => simp only [lowOp, hop] at hl; cases hl; exact sound_mv (.inr hop) r hd hn
  | pick c x y => simp only [lowOp, hop] at hl; cases hl; exact sound_pick hop r hd hn
  | alloc t =>
    simp only [lowOp, hop] at hl
    cases hz : (P.info? t).bind (·.zero) with
    | none => rw [hz] at hl; cases hl; exact hd.elim
    | some z =>
      rw [hz] at hl
      simp only [zeroL_eq] at hl
      cases hl; exact sound_alloc hop hz r hd hn
  | box t x => simp only [lowOp, hop] at hl; cases hl; exact sound_box hop r hd hn
  | load t x =>
    rcases lowLoad hop hl with rfl | ⟨agg, k, rfl, h1, h2, h3⟩
    · exact hd.elim
    exact sound_load hop h1 h2 h3 r hd hn
  | store t x y =>
    simp only [lowOp, hop] at hl
    cases hz : sizeT P t with
    | none => rw [hz] at hl; cases hl; exact hd.elim
    | some k => rw [hz] at hl; cases hl; exact sound_store hop hz r hd hn
  | nilCheck x => simp only [lowOp, hop] at hl; cases hl; exact sound_nilCheck hop r hd hn
  | fieldAddr t x f =>
    simp only [lowOp, hop] at hl
    cases hz : fieldOff P t f with
    | none => rw [hz] at hl; cases hl; exact hd.elim
    | some k => rw [hz] at hl; cases hl; exact sound_fieldAddr hop hz r hd hn
  | indexAddr t x i =>
    simp only [lowOp, hop] at hl
    cases hz : elemSize P t with
    | none =>
      rw [hz] at hl
      cases hz2 : arrSize P t with
      | none => rw [hz2] at hl; cases hl; exact sound_puref (by simp [hop]) r (by rw [hop]; exact hd) hn
      | some p => rw [hz2] at hl; cases hl; exact sound_indexArr hop hz2 r hd hn
    | some k => rw [hz] at hl; cases hl; exact sound_indexAddr hop hz r hd hn
  | call c =>
    simp only [lowOp, hop] at hl
    cases hc : c.callee with
    | value f => rw [hc] at hl; cases hl; exact sound_call hop hc r hd hn
    | invoke x y => rw [hc] at hl; cases hl; exact hd.elim
    | builtin b =>
      rw [hc] at hl
      have hraw : so = .raw (.call c) o.type → o.wp P a w next Q := fun e => by subst e; exact sound_raw (by simp [hop]) r (by rw [hop]; exact hd) hn
      have hpf : so = .puref (.call c) o.type → o.wp P a w next Q := fun e => by subst e; exact sound_puref (by simp [hop]) r (by rw [hop]; exact hd) hn
      by_cases hlen : b = .len
      · subst hlen
        simp only [lowBuiltin] at hl
        split at hl
        · rename_i x t hargs hts
          cases hz : lenable P t with
          | none => rw [hz] at hl; cases hl; exact hraw rfl
          | some str => rw [hz] at hl; cases hl; exact sound_len hop hc hargs hts hz r hd hn
        · cases hl; exact hd.elim
      · cases b <;> simp only [lowBuiltin] at hl <;> first | exact absurd rfl hlen | (cases hl; exact hraw rfl) | (cases hl; exact hpf rfl)
  | unOp => simp only [lowOp, hop] at hl; cases hl; exact sound_pure (by simp [hop]) r (by rw [hop]; exact hd) hn
  | extract => simp only [lowOp, hop] at hl; cases hl; exact sound_pure (by simp [hop]) r (by rw [hop]; exact hd) hn
  | makeFunc => simp only [lowOp, hop] at hl; cases hl; exact sound_pure (by simp [hop]) r (by rw [hop]; exact hd) hn
  | binOp op t x y u =>
    simp only [lowOp, hop] at hl
    split at hl
    · split at hl
      · cases hl
        simp only [denOp] at hd
        split at hd
        · rename_i l m hx hy
          exact wp_of_run (run_addS hop (r.vv hx).1 (r.vv hy).1 hd.1) (hn _ s h bs _ w hd.2 rfl r (Agree.refl bs) (Nat.le_refl _) noLoc)
        · exact hd.elim
      · cases hl; exact sound_pure (by simp [hop]) r (by rw [hop]; exact hd) hn
    · split at hl
      · cases hl
        simp only [denOp] at hd
        split at hd
        · rename_i l m hx hy
          exact wp_of_run (run_eqS hop (r.vv hx).1 (r.vv hy).1) (hn _ s h bs _ w hd rfl r (Agree.refl bs) (Nat.le_refl _) noLoc)
        · exact hd.elim
      · cases hl; exact sound_pure (by simp [hop]) r (by rw [hop]; exact hd) hn
    · split at hl
      · cases hl
        simp only [denOp] at hd
        split at hd
        · rename_i l m hx hy
          exact wp_of_run (run_neqS hop (r.vv hx).1 (r.vv hy).1) (hn _ s h bs _ w hd rfl r (Agree.refl bs) (Nat.le_refl _) noLoc)
        · exact hd.elim
      · cases hl; exact sound_pure (by simp [hop]) r (by rw [hop]; exact hd) hn
    all_goals try split at hl
    all_goals cases hl
    all_goals first | exact sound_puref (by simp [hop]) r (by rw [hop]; exact hd) hn | exact sound_pure (by simp [hop]) r (by rw [hop]; exact hd) hn
  | build t parts =>
    rcases lowBuild hop hl r with rfl | ⟨z, ps, rfl, hb⟩
    · exact hd.elim
    · obtain ⟨l, hk, hrun⟩ := hb hd
      exact wp_of_run (hrun w) (hn _ s h bs _ w hk rfl r (Agree.refl bs) (Nat.le_refl _) noLoc)
  | buildSlice t m parts =>
    rcases lowBuildSlice hop hl r with rfl | ⟨e, z, ps, rfl, hb⟩
    · exact hd.elim
    · obtain ⟨l, hk, hrun⟩ := hb hd
      exact wp_of_run hrun (hn _ s _ bs _ _ (hk _ r.sub.fresh) rfl (r.newReal _) (Agree.refl bs) (Nat.le_refl _) noLoc)
  | field t x f =>
    rcases lowField (a := a) hop hl with rfl | ⟨agg, off, k, rfl, hb⟩
    · exact hd.elim
    · simp only [denOp] at hd
      split at hd
      · rename_i l hx
        split at hd
        · rename_i hle
          exact wp_of_run (hb l w (r.vv hx).1 (Nat.le_of_ble_eq_true hle)) (hn _ s h bs _ w hd rfl r (Agree.refl bs) (Nat.le_refl _) noLoc)
        · exact hd.elim
      · exact hd.elim
  | convert src dst x =>
    simp only [lowOp, hop] at hl
    split at hl
    · rename_i k1 k h1 h2; cases hl; exact sound_conv hop h1 h2 r hd hn
    · rename_i e h1 h2
      split at hl
      · rename_i he
        cases hl
        simp only [denOp] at hd
        split at hd
        · rename_i b off m c hx
          obtain ⟨l, rfl, hrow, hk⟩ := hd
          exact wp_of_run (run_bytesS hop h1 he h2 (r.vv hx).1 r.sub hrow) (hn _ s h bs _ w hk rfl r (Agree.refl bs) (Nat.le_refl _) noLoc)
        · rename_i m c hx
          exact wp_of_run (run_bytesNil hop h1 he h2 (r.vv hx).1) (hn _ s h bs _ w hd rfl r (Agree.refl bs) (Nat.le_refl _) noLoc)
        · exact hd.elim
      · cases hl; exact sound_raw (by simp [hop]) r (by rw [hop]; exact hd) hn
    · cases hl; exact sound_raw (by simp [hop]) r (by rw [hop]; exact hd) hn
  | index t x i =>
    simp only [lowOp, hop] at hl
    split at hl
    · rename_i hu
      cases hl
      simp only [denOp] at hd
      split at hd
      · rename_i l k j hx hi
        obtain ⟨h0, c, hc, hk⟩ := hd
        exact wp_of_run (run_idxS hop hu (r.vv hx).1 (r.vv hi).1 h0 hc) (hn _ s h bs _ w hk rfl r (Agree.refl bs) (Nat.le_refl _) noLoc)
      · exact hd.elim
    · cases hl; exact sound_puref (by simp [hop]) r (by rw [hop]; exact hd) hn
  | slice t x lo hi mx =>
    simp only [lowOp, hop] at hl
    split at hl
    · rename_i hu
      cases hl
      simp only [denOp] at hd
      split at hd
      · rename_i l hx
        obtain ⟨v, hk, hrun⟩ := run_sliceS (K := fun v => K (.val v) s h) r hop hu (r.vv hx).1 hd
        exact wp_of_run (hrun w) (hn _ s h bs _ w hk rfl r (Agree.refl bs) (Nat.le_refl _) noLoc)
      · exact hd.elim
    · rename_i e hu
      split at hl
      · rename_i k hk
        cases hl
        simp only [denOp] at hd
        split at hd
        · rename_i b off m c hx
          obtain ⟨v, hk, hrun⟩ := run_sliceL (K := fun v => K (.val v) s h) r hop hu hk (r.vv hx).1 hd
          exact wp_of_run (hrun w) (hn _ s h bs _ w hk rfl r (Agree.refl bs) (Nat.le_refl _) noLoc)
        · rename_i hx
          obtain ⟨v, hk, hrun⟩ := run_sliceNil (K := fun v => K (.val v) s h) r hop hu hk (r.vv hx).1 hd
          exact wp_of_run (hrun w) (hn _ s h bs _ w hk rfl r (Agree.refl bs) (Nat.le_refl _) noLoc)
        · exact hd.elim
      · cases hl; exact hd.elim
    · cases hl; exact sound_puref (by simp [hop]) r (by rw [hop]; exact hd) hn
  | makeInterface => simp only [lowOp, hop] at hl; cases hl; exact sound_puref (by simp [hop]) r (by rw [hop]; exact hd) hn
  | makeMap | makeSlice | lookup | mapUpdate | insert => simp only [lowOp, hop] at hl; cases hl; exact sound_raw (by simp [hop]) r (by rw [hop]; exact hd) hn
  | _ => simp only [lowOp, hop] at hl; cases hl; exact hd.elim
end
end Go.Den
