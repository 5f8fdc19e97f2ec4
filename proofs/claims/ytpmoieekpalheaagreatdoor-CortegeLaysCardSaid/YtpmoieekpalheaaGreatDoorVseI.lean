/- The symbolic executor is sound: one operation, at once. -/
import Derived.Test.YtpmoieekpalheaaGreatDoorVseH
import Derived.Test.YtpmoieekpalheaaGreatDoorVseT
import Derived.Test.YtpmoieekpalheaaGreatDoorVseV
namespace Go.Vse
open Go

section
variable {K : Kit} {P : Program}

theorem run_enter {f : FuncId} {fn : Func} {c : Code} (hf : P.funcs[f]? = some fn) (hname : (fn.name == "runtime.NumGoroutine") = false) (hb : fn.body = some c) (args : Array Value) (w : World) :
    (callFunc f args).run P w = .ok (.enter f args) w := by
  have h1 : fn.name ≠ "runtime.NumGoroutine" := by simpa using hname
  simp [callFunc, hf, h1, hb]

theorem same_bind {x : Out (std K) (ST (std K))} {h h' : Heap (std K)} {v : ST (std K)} (hh : (x.bind fun v => Out.leaf (v, h)).eval = some (v, h')) : x.eval = some v ∧ h' = h := by
  obtain ⟨a, h1, h2⟩ := eval_bind_some hh
  simp [Out.eval] at h2
  obtain ⟨rfl, rfl⟩ := h2
  exact ⟨h1, rfl⟩

theorem nilS_ok {x : Option (ST (std K))} {v : ST (std K)} (h : (nilS x).eval = some v) : x = some v ∧ ((∃ i p o, v = .one (.ptr i p o)) ∨ (∃ f, v = .one (.fn f)) ∨ (∃ t c, v = .one (.ifc t c))) := by
  unfold nilS at h
  split at h <;> simp [Out.eval] at h <;> subst h
  · exact ⟨rfl, .inl ⟨_, _, _, rfl⟩⟩
  · exact ⟨rfl, .inr (.inl ⟨_, rfl⟩)⟩
  · exact ⟨rfl, .inr (.inr ⟨_, _, rfl⟩)⟩

theorem callS_ok {E : Env (std K)} {call : FuncId → List (ST (std K)) → Heap (std K) → Res (std K)} (hcall : CallOK E call) {o : Oper} {a : Act} {σ : Sg} {F : Nat → Nat → Prop} {h h' : Heap (std K)} {w : World} {v : ST (std K)}
    (hr : HRep σ F h.n h.get w) (hG : GRep E σ) {f : FuncId} {args : List (ST (std K))} {vals : List Value} (hs : (callS E call f args h).eval = some (v, h')) (hd : denA σ args = some vals)
    (hex : execOp a.eval o = callFunc f vals.toArray ∨ ∀ (R : Result Next), (callFunc f vals.toArray).run E.P w = R → (execOp a.eval o).run E.P w = R) : OpOK E.P o a σ F h w v h' := by
  unfold callS at hs
  split at hs
  · rename_i fn hfn
    split at hs
    · simp [Out.eval] at hs
    · rename_i hname
      split at hs
      · simp [Out.eval] at hs
      · rename_i hbody
        obtain ⟨cd, hcd⟩ : ∃ cd, fn.body = some cd := by
          cases hb : fn.body with
          | none => simp [hb] at hbody
          | some cd => exact ⟨cd, rfl⟩
        have hname' : (fn.name == "runtime.NumGoroutine") = false := by simpa using hname
        have hc := hcall f _ h h' v hs σ F w hG hr _ hd
        intro next Q hnx
        have h5 := run_enter (P := E.P) hfn hname' hcd vals.toArray w
        have hrun : (execOp a.eval o).run E.P w = .ok (.enter f vals.toArray) w := by
          rcases hex with hex | hex
          · rw [hex]; exact h5
          · exact hex _ h5
        unfold Oper.wp
        rw [hrun]
        refine Calls.mono hc ?_
        rintro e w' ⟨σ', F', x, hp, rfl, hv⟩
        exact hnx σ' F' w' x hp hv
  · simp [Out.eval] at hs

theorem OpOK.of_run {P : Program} {o : Oper} {a : Act} {σ F} {h h' : Heap (std K)} {w w' : World} {v : ST (std K)} {x : Value} {σ' F'} (hrun : (execOp a.eval o).run P w = .ok (.value x) w')
    (hp : Post σ F h.n h.get w σ' F' h'.n h'.get w') (hv : v.den σ' = some x) : OpOK P o a σ F h w v h' := by
  intro next Q hn
  unfold Oper.wp
  rw [hrun]
  exact hn σ' F' w' x hp hv

theorem builtinS_ok {E : Env (std K)} (hA : ArOK E.A) {o : Oper} {c : Call} {a : Act} {σ : Sg} {F : Nat → Nat → Prop} {h h' : Heap (std K)} {w : World} {v : ST (std K)} (hr : HRep σ F h.n h.get w) {b : Builtin} {args : List (ST (std K))}
    (hda : denA σ args = some (c.args.toList.map a.eval)) (hs : (builtinS E b c.argTypes args h).eval = some (v, h')) (hop : o.op = .call c) (hg : c.callee = .builtin b) : OpOK E.P o a σ F h w v h' := by
  unfold builtinS at hs
  split at hs
  · -- len
    split at hs
    · rename_i T x hT
      obtain ⟨h1, rfl⟩ := same_bind hs
      unfold lenS at h1
      obtain ⟨vx, _, hvx, h0, hargs2⟩ := denA_cons.1 hda
      simp [denA] at h0; subst h0
      have hsz : c.args.map a.eval = #[vx] := by apply Array.ext'; simpa using hargs2
      have key : ∀ n : Nat, (∃ e, E.P.underlying T = some (.slice e)) → (∃ b cp, vx = .slice b n cp) → v.den σ = some (.int .i64 n) → OpOK E.P o a σ F h' w v h' := by
        rintro n ⟨e, hu⟩ ⟨b, cp, rfl⟩ hv
        refine .same hr ?_ hv
        simp only [execOp, hop, resolve, hg, Sem.run_bind, Sem.run_pure, Result.andThen_ok, invoke, builtin, hsz]
        simp [Builtin.len_, hT, run_underlying hu, goInt]
      split at h1
      · rename_i e hu
        simp [Out.eval] at h1; subst h1
        cases hvx
        exact key 0 ⟨e, hu⟩ ⟨_, _, rfl⟩ rfl
      · rename_i e i hu
        have key2 : ∀ U sz cc, (h'.get i = some (.vec U sz cc) ∨ h'.get i = some (.ro U sz cc)) → v = .one (.int .i64 (vecLen E.A cc)) → OpOK E.P o a σ F h' w v h' := by
          rintro U sz cc hi rfl
          obtain ⟨L, rows, hL, hcd, hlen, _⟩ := vec_block hr hi
          simp only [ST.den, SC.den, hL, Option.some.injEq] at hvx
          exact key L.len ⟨e, hu⟩ ⟨_, _, hvx.symm⟩ (by simp [ST.den, SC.den, vecLen_ok hA hcd, hlen])
        split at h1
        · rename_i U sz cc hi
          simp [Out.eval] at h1
          exact key2 U sz cc (.inl hi) h1.symm
        · rename_i U sz cc hi
          simp [Out.eval] at h1
          exact key2 U sz cc (.inr hi) h1.symm
        · rename_i i' o' s' m hi
          simp [Out.eval] at h1; subst h1
          obtain ⟨L, hL, L₀, hL0, hg, hoff, hlen, hcap, _⟩ := hr.sat i _ hi
          simp only [ST.den, SC.den, hL, Option.some.injEq] at hvx
          exact key L.len ⟨e, hu⟩ ⟨_, _, hvx.symm⟩ (by simp [ST.den, SC.den, Num.den, hlen])
        · simp [Out.eval] at h1
      · rename_i e i hu
        simp [Out.eval] at h1; subst h1
        obtain ⟨a, rfl⟩ := den_eslc (K := K) hvx
        exact key 0 ⟨e, hu⟩ ⟨_, _, rfl⟩ rfl
      · rename_i e i m hu
        simp [Out.eval] at h1; subst h1
        cases hL : σ i with
        | none => simp [ST.den, SC.den, hL] at hvx
        | some L =>
          simp only [ST.den, SC.den, hL] at hvx
          split at hvx
          · rename_i hm
            simp only [Option.some.injEq] at hvx
            exact key (m.den (K := K)).toNat ⟨e, hu⟩ ⟨_, _, hvx.symm⟩ (by simp [ST.den, SC.den, Int.toNat_of_nonneg hm.1])
          · cases hvx
      · simp [Out.eval] at h1
    · simp [Out.eval] at hs
  · -- append
    split at hs
    · rename_i T T' s x hts
      split at hs
      · rename_i hTT
        subst hTT
        obtain ⟨vs, r1, hvs, h0, hargs1⟩ := denA_cons.1 hda
        obtain ⟨vx, r2, hvx, h2, rfl⟩ := denA_cons.1 h0
        simp [denA] at h2; subst h2
        have hsz : c.args.map a.eval = #[vs, vx] := by apply Array.ext'; simpa using hargs1
        have hts' : c.argTypes = #[T, T] := by apply Array.ext'; simpa using hts
        obtain ⟨y, w', σ', F', hrun, hp, hv⟩ := appendS_ok (ty := o.type) hA hr hs hvs hvx
        refine .of_run ?_ hp hv
        simp only [execOp, hop, resolve, hg, Sem.run_bind, Sem.run_pure, Result.andThen_ok, invoke, builtin, hsz, hts']
        rw [hrun]; rfl
      · simp [Out.eval] at hs
    · simp [Out.eval] at hs
  · -- delete
    split at hs
    · rename_i T x kk hT
      obtain ⟨vx, r1, hvx, h0, hargs1⟩ := denA_cons.1 hda
      obtain ⟨vk, r2, hvk, h2, rfl⟩ := denA_cons.1 h0
      simp [denA] at h2; subst h2
      have hsz : c.args.map a.eval = #[vx, vk] := by apply Array.ext'; simpa using hargs1
      obtain ⟨w', hrun, hp, hv⟩ := deleteS_ok (ty := o.type) hA hr hT hs hvx hvk
      refine .of_run (x := .tuple #[]) ?_ hp (by rw [hv]; rfl)
      simp only [execOp, hop, resolve, hg, Sem.run_bind, Sem.run_pure, Result.andThen_ok, invoke, builtin, hsz]
      rw [hrun]; rfl
    · simp [Out.eval] at hs
  · simp [Out.eval] at hs

theorem typeAssertS_ok {E : Env (std K)} {σ : Sg} {T xT : TypeId} {ok : Bool} {x : ST (std K)} {v : ST (std K)} (hs : (typeAssertS E T ok (some x)).eval = some v) {vx : Value} (hx : x.den σ = some vx) (w : World) :
    ∃ y, (Instr.typeAssert vx xT T ok).run E.P w = .ok y w ∧ v.den σ = some y := by
  unfold typeAssertS at hs
  split at hs
  · rename_i want t c hu hxe
    cases hxe
    obtain ⟨z, hz, rfl⟩ := den_ifc hx
    unfold lackS at hs
    cases hi : E.P.info? t with
    | none => simp [hi, Out.eval] at hs
    | some i =>
      simp only [hi] at hs
      cases hl : (lacking want i.methods).isEmpty with
      | true =>
        rw [hl] at hs
        simp only [Out.eval, Option.some.injEq] at hs
        have hm := missingMethod_none (List.isEmpty_iff.1 hl)
        cases ok with
        | true =>
          simp only [if_true] at hs
          subst hs
          exact ⟨.tuple #[.iface t z, .bool true], by simp [Instr.typeAssert, run_underlying hu, typeInfo, hi, hm], by simp [ST.den, denT, compDen, denL, SC.den, hz, Bol.den]⟩
        | false =>
          simp only [Bool.false_eq_true, if_false] at hs
          subst hs
          exact ⟨.iface t z, by simp [Instr.typeAssert, run_underlying hu, typeInfo, hi, hm], by simp [ST.den, SC.den, hz]⟩
      | false =>
        rw [hl] at hs
        obtain ⟨m, hm⟩ := missingMethod_some (want := want) (got := i.methods) (fun e => by rw [e] at hl; cases hl)
        simp only at hs
        split at hs
        · rename_i hc
          simp only [Bool.and_eq_true] at hc
          obtain ⟨hok, hzn⟩ := hc
          simp [Out.eval] at hs; subst hs
          unfold zeroNif at hzn
          cases hj : E.P.info? T with
          | none => simp [hj] at hzn
          | some j =>
            simp only [hj] at hzn
            have hzz : j.zero = some .nilIface := by
              split at hzn
              · rename_i h; exact h
              · cases hzn
            exact ⟨.tuple #[.nilIface, .bool false], by simp [Instr.typeAssert, run_underlying hu, typeInfo, hi, hm, zeroValue, hj, hzz, hok], by simp [ST.den, denT, compDen, denL, SC.den, Bol.den]⟩
        · simp [Out.eval] at hs
  · simp [Out.eval] at hs

theorem methodS_ok {E : Env (std K)} {t : TypeId} {name : String} {f : FuncId} (h : methodS E t name = some f) (v : Value) (args : Array Value) (w : World) :
    (callMethod (.iface t v) name args).run E.P w = (callFunc f (#[v] ++ args)).run E.P w := by
  unfold methodS at h
  split at h
  · rename_i i e hi hu
    split at h
    · rename_i m hm
      split at h
      · rename_i g hg
        split at h
        · rename_i hp
          simp at h; subst h
          have hsz : ∃ k, E.P.types.size + Made.depth = k + 1 := ⟨E.P.types.size + 99, rfl⟩
          obtain ⟨k, hk⟩ := hsz
          have hpath : m.path.toList = [] := by
            have : m.path = #[] := by simpa using hp
            simp [this]
          have hmeth : (method (k + 1) t v name).run E.P w = .ok (g, v) w := by
            simp only [method, Sem.run_bind, typeInfo, run_program, Result.andThen_ok, hi, Sem.run_pure, hm, hpath, follow, hg, receiverAt, run_underlying hu, Place.get]
          simp only [callMethod, Sem.run_bind, run_program, Result.andThen_ok, hk, hmeth]
        · cases h
      · cases h
    · cases h
  · cases h

theorem boundO_ok {ρ : Operand → Option (ST (std K))} {a : Act} {σ : Sg} (hρ : ∀ x v, ρ x = some v → v.den σ = some (a.eval x)) {o : Option Operand} {n : Option (Num (std K).I)} (hn : boundO ρ o = some n) : Bound n (o.map a.eval) := by
  cases o with
  | none => simp [boundO] at hn; subst hn; exact .inl ⟨rfl, rfl⟩
  | some o =>
    simp only [boundO] at hn
    split at hn
    · rename_i k m hm
      cases hn
      have hd := hρ o _ hm
      simp only [ST.den, SC.den, Option.some.injEq] at hd
      exact .inr ⟨k, m, rfl, by rw [Option.map_some, ← hd]⟩
    · cases hn

set_option maxHeartbeats 1000000 in
theorem step_ok {E : Env (std K)} (hA : ArOK E.A) {call : FuncId → List (ST (std K)) → Heap (std K) → Res (std K)} (hcall : CallOK E call) {o : Oper} {ρ : Operand → Option (ST (std K))} {a : Act} {σ : Sg} {F : Nat → Nat → Prop}
    {h h' : Heap (std K)} {w : World} {v : ST (std K)} (hr : HRep σ F h.n h.get w) (hG : GRep E σ) (hρ : ∀ x v, ρ x = some v → v.den σ = some (a.eval x))
    (hs : (stepOp E call ρ o.op h).eval = some (v, h')) : OpOK E.P o a σ F h w v h' := by
  unfold stepOp at hs
  split at hs
  · -- move
    rename_i x hop
    obtain ⟨h1, rfl⟩ := same_bind hs
    exact .same hr (by simp [execOp, hop]) (hρ x v (orFail_some h1))
  · rename_i x hop
    obtain ⟨h1, rfl⟩ := same_bind hs
    exact .same hr (by simp [execOp, hop]) (hρ x v (orFail_some h1))
  · -- pick
    rename_i c x y hop
    split at hs
    · rename_i b hc
      obtain ⟨h1, rfl⟩ := same_bind hs
      have hd := hρ c _ hc
      simp only [ST.den, SC.den, Option.some.injEq] at hd
      unfold pickS at h1
      rw [eval_branch] at h1
      cases hb : b.den (K := K) with
      | true =>
        rw [hb] at h1 hd
        have := hρ x v (orFail_some h1)
        exact .same hr (by simp [execOp, hop, ← hd, asBool]) this
      | false =>
        rw [hb] at h1 hd
        have := hρ y v (orFail_some h1)
        exact .same hr (by simp [execOp, hop, ← hd, asBool]) this
    · simp [Out.eval] at hs
  · -- alloc
    rename_i T hop
    split at hs
    · rename_i l hz
      simp [Out.eval] at hs
      obtain ⟨rfl, rfl⟩ := hs
      unfold zeroT at hz
      cases hi : E.P.info? T with
      | none => simp [hi] at hz
      | some it =>
        simp only [hi] at hz
        cases hzz : it.zero with
        | none => simp [hzz] at hz
        | some zv =>
          simp only [hzz] at hz
          have hzd := mapO_constSC (K := K) (σ := σ) hz
          obtain ⟨σ', F', hp, hn⟩ := hr.push (T := T) hzd
          intro next Q hnx
          have hrun : (execOp a.eval o).run E.P w = .ok (.value (.pointer (some ⟨w.heap.size, 0, none⟩))) (w.alloc (.cells zv.cells.toList.toArray T)) := by
            simp [execOp, hop, Instr.alloc, zeroValue, typeInfo, hi, hzz, newVar, newRow]
          unfold Oper.wp
          rw [hrun]
          exact hnx σ' F' _ _ hp (by simp [ST.den, SC.den, hn, pathOK, pathOff])
    · simp [Out.eval] at hs
  · -- box
    rename_i T x hop
    split at hs
    · rename_i u hu
      split at hs
      · rename_i l hl
        simp [Out.eval] at hs
        obtain ⟨rfl, rfl⟩ := hs
        rw [stCells_eq] at hl
        obtain ⟨vs, hvs, hc⟩ := ST.cells_den (hρ x u hu) hl
        obtain ⟨σ', F', hp, hn⟩ := hr.push (T := T) hvs
        intro next Q hnx
        have hrun : (execOp a.eval o).run E.P w = .ok (.value (.pointer (some ⟨w.heap.size, 0, none⟩))) (w.alloc (.cells vs.toArray T)) := by
          simp [execOp, hop, Instr.box, newVar, newRow, hc]
        unfold Oper.wp
        rw [hrun]
        exact hnx σ' F' _ _ hp (by simp [ST.den, SC.den, hn, pathOK, pathOff])
      · simp [Out.eval] at hs
    · simp [Out.eval] at hs
  · -- build
    rename_i T parts hop
    split at hs
    · rename_i ps hps
      obtain ⟨h1, rfl⟩ := same_bind hs
      obtain ⟨h2, h3⟩ := partsS_ok hρ hps
      obtain ⟨x, hx, hv⟩ := buildS_ok (σ := σ) (orFail_some h1) (qs := parts.toList.map fun p => (p.1, a.eval p.2)) (by rw [h2]; simp) (fun i p q hp hq => by
        rw [List.getElem?_map] at hq
        cases hq2 : parts.toList[i]? with
        | none => simp [hq2] at hq
        | some q2 =>
          simp [hq2] at hq; subst hq
          exact h3 i p q2 hp hq2) w
      refine .same hr ?_ hv
      have he : (parts.map fun (p : Nat × Operand) => (p.1, a.eval p.2)) = (parts.toList.map fun p => (p.1, a.eval p.2)).toArray := by
        apply Array.ext'; simp
      simp only [execOp, hop, Sem.run_bind]
      rw [he, hx]
      rfl
    · simp [Out.eval] at hs
  · -- load
    rename_i T x hop
    split at hs
    · rename_i ad had
      obtain ⟨h1, rfl⟩ := same_bind hs
      obtain ⟨y, hy, hv⟩ := loadS_ok hA hr (orFail_some h1) (hρ x ad had)
      exact .same hr (by simp [execOp, hop, hy]) hv
    · simp [Out.eval] at hs
  · -- store
    rename_i T x y hop
    split at hs
    · rename_i ad u had hu
      split at hs
      · rename_i h2 hst
        simp [Out.eval] at hs
        obtain ⟨rfl, rfl⟩ := hs
        obtain ⟨w', hw, hp⟩ := storeS_ok hr hst (hρ x ad had) (hρ y u hu)
        intro next Q hnx
        have hrun : (execOp a.eval o).run E.P w = .ok .skip w' := by simp [execOp, hop, hw]
        unfold Oper.wp
        rw [hrun]
        exact hnx σ F _ _ hp (by simp [undefS, ST.den, denT, undef])
      · split at hs
        · rename_i h2 hst
          simp [Out.eval] at hs
          obtain ⟨rfl, rfl⟩ := hs
          obtain ⟨w', hw, hp⟩ := storeV_ok hA hr hst (hρ x ad had) (hρ y u hu)
          intro next Q hnx
          have hrun : (execOp a.eval o).run E.P w = .ok .skip w' := by simp [execOp, hop, hw]
          unfold Oper.wp
          rw [hrun]
          exact hnx σ F _ _ hp (by simp [undefS, ST.den, denT, undef])
        · simp [Out.eval] at hs
    · simp [Out.eval] at hs
  · -- nilCheck
    rename_i x hop
    obtain ⟨h1, rfl⟩ := same_bind hs
    obtain ⟨h2, h3⟩ := nilS_ok h1
    have hd := hρ x v h2
    refine .same hr ?_ hd
    rcases h3 with ⟨i, p, o', rfl⟩ | ⟨f, rfl⟩ | ⟨t, c, rfl⟩
    · obtain ⟨ad, he⟩ := den_ptr hd
      simp [execOp, hop, he]
    · have he : a.eval x = .func (.func f) #[] #[] := by simpa [ST.den, SC.den] using hd.symm
      simp [execOp, hop, he]
    · obtain ⟨y, _, he⟩ := den_ifc hd
      simp [execOp, hop, he]
  · -- binOp
    rename_i op T x y yT hop
    split at hs
    · rename_i p q hp hq
      obtain ⟨h1, rfl⟩ := same_bind hs
      obtain ⟨r, h2, h3, h4⟩ := binS_ok hA hr h1 (hρ x p hp) (hρ y q hq)
      exact .same hr (by simp [execOp, hop, h2, h3]) h4
    · simp [Out.eval] at hs
  · -- unOp
    rename_i op T x hop
    obtain ⟨h1, rfl⟩ := same_bind hs
    unfold unS at h1
    split at h1
    · rename_i b hb
      simp [Out.eval] at h1; subst h1
      have hd := hρ x _ hb
      simp only [ST.den, SC.den, Option.some.injEq] at hd
      exact .same (x := .bool !(b.den (K := K))) hr (by simp [execOp, hop, ← hd, Op.unary]) (by simp [boolS, ST.den, SC.den, notB_den hA])
    · simp [Out.eval] at h1
  · -- convert
    rename_i s d x hop
    obtain ⟨h1, rfl⟩ := same_bind hs
    unfold convS at h1
    split at h1
    · rename_i ds k k' n hsu hdu hx
      simp [Out.eval] at h1; subst h1
      have hd := hρ x _ hx
      simp only [ST.den, SC.den, Option.some.injEq] at hd
      refine .same (x := .int k (k.wrap (n.den (K := K)))) hr ?_ (by simp [ST.den, SC.den, convN_den hA])
      simp only [execOp, hop, ← hd, Sem.run_bind]
      have : (convert s d (.int k' (n.den (K := K)))).run E.P w = .ok (.int k (k.wrap (n.den (K := K)))) w := by
        unfold convert
        simp only [Sem.run_bind, run_underlying hsu, run_underlying hdu, Result.andThen_ok]
        cases ds <;> simp [Conv.intToInt]
      rw [this]; rfl
    · simp [Out.eval] at h1
  · -- makeInterface
    rename_i T x hop
    obtain ⟨h1, rfl⟩ := same_bind hs
    unfold ifaceS at h1
    split at h1
    · simp [Out.eval] at h1
    · rename_i d c hd hu hx
      simp [Out.eval] at h1; subst h1
      have he := hρ x _ hx
      refine .same (x := .iface T (a.eval x)) hr ?_ (by simp only [ST.den] at he; simp [ST.den, SC.den, he])
      simp only [execOp, hop, Sem.run_bind]
      have : (Instr.makeInterface T (a.eval x)).run E.P w = .ok (.iface T (a.eval x)) w := by
        cases d <;> first | exact absurd rfl (hd _) | simp [Instr.makeInterface, run_underlying hu]
      rw [this]; rfl
    · simp [Out.eval] at h1
  · -- fieldAddr
    rename_i T x f hop
    obtain ⟨h1, rfl⟩ := same_bind hs
    unfold fieldAddrS at h1
    split at h1
    · rename_i fd i p o' hf hx
      split at h1
      · rename_i k hk
        simp [Out.eval] at h1; subst h1
        obtain ⟨fs, hu, hfs⟩ := fieldT_run hf
        have hd := hρ x _ hx
        obtain ⟨ad, he⟩ := den_ptr hd
        rw [he] at hd
        refine .same (x := .pointer (some (ad.add fd.offset))) hr ?_ ?_
        · simp only [execOp, hop, he, Sem.run_bind]
          simp [Instr.fieldAt, run_underlying hu, hfs, Instr.sureAddr, fieldPlace, sizeT_run hk]
        · simp only [ST.den, SC.den] at hd ⊢
          split at hd
          · split at hd
            · rename_i L hL hp
              simp at hd; subst hd
              simp only [hp, if_true, addr_add]
              simp; omega
            · cases hd
          · cases hd
      · simp [Out.eval] at h1
    · simp [Out.eval] at h1
  · -- field
    rename_i T x f hop
    obtain ⟨h1, rfl⟩ := same_bind hs
    unfold fieldS at h1
    split at h1
    · rename_i fd l hf hx
      obtain ⟨fs, hu, hfs⟩ := fieldT_run hf
      have hd := hρ x _ hx
      simp only [ST.den] at hd
      split at hd
      · rename_i vs hvs
        simp at hd
        obtain ⟨y, hy, hv⟩ := asT_den (orFail_some h1) hvs w
        refine .same hr ?_ hv
        simp only [execOp, hop, ← hd, Sem.run_bind]
        simp [Instr.field, run_underlying hu, hfs, asAgg, hy]
      · cases hd
    · simp [Out.eval] at h1
  · -- indexAddr
    rename_i T x ix hop
    split at hs
    · rename_i p q hp hq
      obtain ⟨h1, rfl⟩ := same_bind hs
      obtain ⟨r, h2, h3⟩ := indexAddrS_ok hA hr h1 (hρ x p hp) (hρ ix q hq)
      exact .same hr (by simp [execOp, hop, h2]) h3
    · simp [Out.eval] at hs
  · -- extract
    rename_i x ix hop
    obtain ⟨h1, rfl⟩ := same_bind hs
    unfold extractS at h1
    split at h1
    · rename_i l hx
      have hd := hρ x _ hx
      simp only [ST.den] at hd
      split at hd
      · rename_i vs hvs
        simp at hd
        have key : ∀ c y, l[ix]? = some c → compDen σ c = some y → v.den σ = some y → OpOK E.P o a σ F h' w v h' := fun c y hc hy hv => by
          obtain ⟨z, hz1, hz2⟩ := denT_get hvs hc
          rw [hy] at hz1; cases hz1
          refine .same hr ?_ hv
          simp only [execOp, hop, ← hd, Sem.run_bind]
          simp [Instr.extract, hz2]
        split at h1
        · rename_i c hc
          simp [Out.eval] at h1; subst h1
          obtain ⟨z, hz1, hz2⟩ := denT_get hvs hc
          refine key _ z hc hz1 ?_
          simp only [compDen] at hz1
          split at hz1
          · rename_i us hus; simp at hz1; simp [ST.den, hus, hz1]
          · cases hz1
        · rename_i c hc
          simp [Out.eval] at h1; subst h1
          obtain ⟨z, hz1, hz2⟩ := denT_get hvs hc
          refine key _ z hc hz1 ?_
          simp only [compDen] at hz1
          split at hz1
          · rename_i us hus
            obtain ⟨y, us', hy, hn, rfl⟩ := denL_cons.1 hus
            simp [denL] at hn; subst hn
            simp at hz1; simp [ST.den, hy, hz1]
          · cases hz1
        · simp [Out.eval] at h1
      · cases hd
    · simp [Out.eval] at h1
  · -- typeAssert
    rename_i x xT T ok hop
    obtain ⟨h1, rfl⟩ := same_bind hs
    cases hx : ρ x with
    | none => rw [hx] at h1; unfold typeAssertS at h1; split at h1 <;> simp_all [Out.eval]
    | some u =>
      rw [hx] at h1
      obtain ⟨y, h2, h3⟩ := typeAssertS_ok (xT := xT) h1 (hρ x u hx) w
      exact .same hr (by simp [execOp, hop, h2]) h3
  · -- makeFunc
    rename_i fn first caps hop
    obtain ⟨h1, rfl⟩ := same_bind hs
    unfold makeFuncS at h1
    split at h1
    · rename_i f l hn hl
      split at h1
      · rename_i cs hcs
        simp [Out.eval] at h1; subst h1
        have h4 := mapOnes_ok hcs (mapO_den hρ hl)
        have h2 := capFn_ok cs h4 (g := .fn f) (f := f) (cv := #[]) rfl
        have h3 : first = #[] := Array.eq_empty_of_size_eq_zero hn
        refine .same (x := .func (.func f) #[] (#[] ++ (caps.toList.map a.eval).toArray)) hr ?_ h2
        simp only [execOp, hop, Sem.run_bind]
        simp [Instr.makeFunc, h3]
        apply Array.ext'; simp
      · simp [Out.eval] at h1
    · simp [Out.eval] at h1
  · -- call
    rename_i c hop
    split at hs
    · rename_i args hargs
      have hda := mapO_den hρ hargs
      split at hs
      · rename_i g hg
        split at hs
        · rename_i g' hg'
          split at hs
          · rename_i f caps hcaps
            obtain ⟨cv, hv1, hv2⟩ := capsOf_ok g' hcaps (hρ g _ hg') rfl
            simp at hv2
            refine callS_ok hcall hr hG hs (denA_append hda hv2) (.inl ?_)
            have he : #[] ++ c.args.map a.eval ++ cv = (c.args.toList.map a.eval ++ cv.toList).toArray := by apply Array.ext'; simp
            simp only [execOp, hop, resolve, hg, hv1, Deferred.ofValue]
            rw [← he]
            rfl
          · simp [Out.eval] at hs
        · simp [Out.eval] at hs
      · rename_i b hg
        exact builtinS_ok hA hr hda hs hop hg
      · rename_i r name hg
        split at hs
        · rename_i t u hu
          split at hs
          · rename_i f hf
            have hd := hρ r _ hu
            obtain ⟨z, hz, he⟩ := den_ifc hd
            refine callS_ok hcall hr hG hs (denA_cons.2 ⟨z, _, hz, hda, rfl⟩) (.inr ?_)
            intro R hR
            have hargs2 : (#[z] ++ c.args.map a.eval) = (z :: c.args.toList.map a.eval).toArray := by apply Array.ext'; simp
            simp only [execOp, hop, resolve, hg, he, Sem.run_bind, Sem.run_pure, Result.andThen_ok, invoke]
            have h2 : #[Value.iface t z] ++ c.args.map a.eval = (.iface t z :: c.args.toList.map a.eval).toArray := by apply Array.ext'; simp
            have h0 : (Value.iface t z :: c.args.toList.map a.eval).toArray[0]? = some (.iface t z) := rfl
            have h1 : (Value.iface t z :: c.args.toList.map a.eval).toArray.extract 1 (Value.iface t z :: c.args.toList.map a.eval).toArray.size = c.args.map a.eval := by
              apply Array.ext'; simp [List.take_of_length_le]
            rw [h2, h0]
            simp only [h1]
            rw [methodS_ok hf, hargs2]
            exact hR
          · simp [Out.eval] at hs
        · simp [Out.eval] at hs
    · simp [Out.eval] at hs
  · -- buildSlice
    rename_i T len parts hop
    split at hs
    · rename_i ps hps
      obtain ⟨h2, h3⟩ := partsS_ok hρ hps
      have h1 := orFail_some hs
      obtain ⟨x, w', σ', F', hrun, hp, hv⟩ := buildSliceS_ok (qs := parts.toList.map fun q => (q.1, a.eval q.2)) hr h1 (by rw [h2]; simp) (fun i p q hp hq => by
        rw [List.getElem?_map] at hq
        cases hq2 : parts.toList[i]? with
        | none => rw [hq2] at hq; cases hq
        | some q2 => rw [hq2] at hq; cases hq; exact h3 i p q2 hp hq2)
      refine .of_run ?_ hp hv
      simp only [execOp, hop, Sem.run_bind]
      have : parts.map (fun q => (q.1, a.eval q.2)) = (parts.toList.map fun q => (q.1, a.eval q.2)).toArray := by apply Array.ext'; simp
      rw [this, hrun]; rfl
    · simp [Out.eval] at hs
  · -- slice
    rename_i T x lo hi hop
    split at hs
    · rename_i p l b hp hl hb
      obtain ⟨y, σ', F', hrun, hp2, hv⟩ := sliceS_ok hA hr hs (hρ x p hp) (boundO_ok hρ hl) (boundO_ok hρ hb)
      refine .of_run ?_ hp2 hv
      simp only [execOp, hop, Sem.run_bind, Option.map_none]
      rw [hrun]; rfl
    · simp [Out.eval] at hs
  · -- slice, with a third index
    rename_i T x lo hi mx _ hop
    split at hs
    · rename_i p l b m hp hl hb hm
      obtain ⟨y, hrun, hp2, hv⟩ := sliceZS_ok hr hs (hρ x p hp) (boundO_ok hρ hl) (boundO_ok hρ hb) (boundO_ok hρ hm)
      refine .of_run ?_ hp2 hv
      simp only [execOp, hop, Sem.run_bind]
      rw [hrun]; rfl
    · simp [Out.eval] at hs
  · -- makeMap
    rename_i T hop
    split at hs
    · rename_i q e hT
      simp only [Out.eval, Option.some.injEq, Prod.mk.injEq] at hs
      obtain ⟨rfl, rfl⟩ := hs
      obtain ⟨w', σ', F', hrun, hp, hv⟩ := makeMap_ok (E := E) (T := T) (q := q) hr
      refine .of_run ?_ hp hv
      simp only [execOp, hop, Sem.run_bind, Option.map_none]
      rw [hrun]; rfl
    · simp [Out.eval] at hs
  · -- lookup
    rename_i T x ix ok hop
    split at hs
    · rename_i p q hp hq
      obtain ⟨h1, rfl⟩ := same_bind hs
      obtain ⟨y, hrun, hv⟩ := lookupS_ok hA hr h1 (hρ x p hp) (hρ ix q hq)
      refine .same hr ?_ hv
      simp only [execOp, hop, Sem.run_bind]
      rw [hrun]; rfl
    · simp [Out.eval] at hs
  · -- mapUpdate
    rename_i T m k c hop
    split at hs
    · rename_i p q r hp hq hc
      obtain ⟨w', hrun, hp2, rfl⟩ := mapUpdateS_ok hA hr hs (hρ m p hp) (hρ k q hq) (hρ c r hc)
      intro next Q hnx
      have hrun : (execOp a.eval o).run E.P w = .ok .skip w' := by simp [execOp, hop, hrun]
      unfold Oper.wp
      rw [hrun]
      exact hnx σ F _ _ hp2 (by simp [undefS, ST.den, denT, undef])
    · simp [Out.eval] at hs
  · -- makeSlice
    rename_i T l c hop
    split at hs
    · rename_i hsame
      split at hs
      · rename_i p hp
        have hd := hρ l p hp
        obtain ⟨y, w', σ', F', hrun, hp2, hv⟩ := makeSliceS_ok (vc := a.eval c) hA hr hs hd (by
          unfold sameOp at hsame
          split at hsame
          · have := Nat.eq_of_beq_eq_true hsame; subst this; exact .inl rfl
          · rename_i k1 n1 k2 n2
            have : n1 = n2 := by simpa using hsame
            subst this
            exact .inr ⟨k1, k2, n1, rfl, rfl⟩
          · cases hsame)
        refine .of_run ?_ hp2 hv
        simp only [execOp, hop, Sem.run_bind]
        rw [hrun]; rfl
      · simp [Out.eval] at hs
    · simp [Out.eval] at hs
  · simp [Out.eval] at hs

end
end Go.Vse
