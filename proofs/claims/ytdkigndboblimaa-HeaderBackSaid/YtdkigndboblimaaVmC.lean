/-
  The third part: regions, code, loops, and what a call owes.
-/
import Derived.Test.YtdkigndboblimaaVmB
import Derived.Deep.LoopGhost
namespace Go.Vm
open Go

def guardVC (all : List Oper) (o : Oper) (fr : List SV) (ex sk : List SV → Prop) : Prop :=
  match o.guard with
  | none => ex fr
  | some (j, want) => match all[j]? with
    | none => False
    | some oj => match oj.dst with
      | none => False
      | some t => match fr.getD t undefV with
        | .blit b => if b = want then ex fr else sk fr
        | .bool b => (b = true → if want = true then ex (fr.set t (.blit true)) else sk (fr.set t (.blit true))) ∧
                     (b = false → if want = true then sk (fr.set t (.blit false)) else ex (fr.set t (.blit false)))
        | .prop p _ => (p → if want = true then ex (fr.set t (.blit true)) else sk (fr.set t (.blit true))) ∧
                       (¬ p → if want = true then sk (fr.set t (.blit false)) else ex (fr.set t (.blit false)))
        | .raw (.tuple _) => sk fr
        | _ => False

def vcOps (P : Program) (cx : Cx) (all : List Oper) : List Oper → List SV → Heap → (List SV → Heap → Prop) → Prop
  | [], fr, h, K => K fr h
  | o :: rest, fr, h, K =>
    guardVC all o fr (fun fr' => vcOp P cx o (ev fr') h (fun v h' => vcOps P cx all rest (putV fr' o.dst v) h' K))
      (fun fr' => vcOps P cx all rest (putV fr' o.dst undefV) h K)

def isLoad : Op → Bool
  | .load .. => true
  | _ => false

def vcQOp (P : Program) (cx : Cx) (o : Oper) (ρ : Operand → SV) (h : Heap) (K : SV → Prop) : Prop :=
  match pureOp P (modeOf cx o.dst) ρ o.op with
  | some (none, v) => K v
  | some (some p, v) => p ∧ K v
  | none => match o.op with
    | .call { callee := .value f, args, .. } => match ρ f with
      | .raw (.func (.func n) first cap) => match cx.pure n (first.toList.map ofCell ++ args.toList.map (fun x => norm (ρ x)) ++ cap.toList.map ofCell) with
        | some (none, v) => K v
        | some (some p, v) => p ∧ K v
        | none => False
      | _ => False
    | op => if isLoad op = true then vcMem P cx o.type ρ h (fun v _ => K v) op else False

def vcQs (P : Program) (cx : Cx) (all : List Oper) : List Oper → List SV → Heap → (List SV → Prop) → Prop
  | [], fr, _, K => K fr
  | o :: rest, fr, h, K =>
    guardVC all o fr (fun fr' => vcQOp P cx o (ev fr') h (fun v => vcQs P cx all rest (putV fr' o.dst v) h K))
      (fun fr' => vcQs P cx all rest (putV fr' o.dst undefV) h K)

def writes : Code → List Nat
  | .region _ ops _ => ops.toList.filterMap (·.dst)
  | .seq a b => writes a ++ writes b
  | .cond _ a b => writes a ++ writes b
  | .block _ c => writes c
  | .loop c => writes c
  | .scope c => writes c
  | _ => []

def setAll (fr : List SV) : List (Nat × SV) → List SV
  | [] => fr
  | (t, v) :: r => setAll (fr.set t v) r

def liveVals (l : List (Nat × RSh)) (fr : List SV) : List SV := l.map fun q => norm (fr.getD q.1 undefV)

def loopFrame (fr : List SV) (ann : LoopAnn) (ds : Nat → SV) (vs : List SV) : List SV :=
  setAll (setAll fr (ann.dead.map fun t => (t, ds t))) ((ann.live.map (·.1)).zip vs)

def vc (P : Program) (cx : Cx) : Code → Nat → (Exit → List SV → Heap → Prop) → List SV → Heap → Prop
  | .skip, _, Q, fr, h => Q .normal fr h
  | .label _, _, Q, fr, h => Q .normal fr h
  | .ret, _, Q, fr, h => Q .ret fr h
  | .exit id, _, Q, fr, h => Q (.exit id) fr h
  | .region id ops draw, _, Q, fr, h =>
    if draw = true then match lk cx.tails id with
      | none => if Region.lexB .any ops = true ∧ P.follows .mixedOrders = true then vcQs P cx ops.toList ops.toList fr h (fun fr' => Q .normal fr' h) else False
      | some _ => False
    else vcOps P cx ops.toList ops.toList fr h (fun fr' h' => Q .normal fr' h')
  | .seq a b, bid, Q, fr, h => vc P cx a bid (fun e fr' h' => match e with | .normal => vc P cx b bid Q fr' h' | e => Q e fr' h') fr h
  | .cond c x y, bid, Q, fr, h => match ev fr c with
    | .blit b => if b = true then vc P cx x bid Q fr h else vc P cx y bid Q fr h
    | .bool b => (b = true → vc P cx x bid Q fr h) ∧ (b = false → vc P cx y bid Q fr h)
    | .prop p _ => (p → vc P cx x bid Q fr h) ∧ (¬ p → vc P cx y bid Q fr h)
    | _ => False
  | .block id c, _, Q, fr, h => vc P cx c id (fun e fr' h' => match e with | .exit i => if i = id then Q .normal fr' h' else Q (.exit i) fr' h' | e => Q e fr' h') fr h
  | .scope c, bid, Q, fr, h => vc P cx c bid (fun e fr' h' => match e with | .goto _ => False | e => Q e fr' h') fr h
  | .loop c, bid, Q, fr, h => match lk cx.loops bid with
    | none => False
    | some ann =>
      if (writes c).all (fun t => (ann.live.map (·.1)).contains t || ann.dead.contains t) = true ∧ hasRs (ann.live.map (·.2)) (liveVals ann.live fr) = true then
        ∃ (I : List SV → Heap → Prop) (μ : List SV → Heap → Nat), I (liveVals ann.live fr) h ∧
          ∀ ds : Nat → SV, allRs (ann.live.map (·.2)) fun vs => ∀ h₁, I vs h₁ →
            vc P cx c bid (fun e fr' h' => match e with
              | .normal => if hasRs (ann.live.map (·.2)) (liveVals ann.live fr') = true then I (liveVals ann.live fr') h' ∧ μ (liveVals ann.live fr') h' < μ vs h₁ else False
              | e => Q e fr' h') (loopFrame fr ann ds vs) h₁
      else False
  | _, _, _, _, _ => False

/-! Soundness. -/
section
variable {P : Program}

def Agree (W : List Nat) (fr fr' : List SV) : Prop := fr'.length = fr.length ∧ ∀ t, t ∉ W → (fr'.getD t undefV).den = (fr.getD t undefV).den

theorem Agree.refl (W : List Nat) (fr : List SV) : Agree W fr fr := ⟨rfl, fun _ _ => rfl⟩
theorem Agree.trans {W : List Nat} {a b c : List SV} (h : Agree W a b) (k : Agree W b c) : Agree W a c :=
  ⟨k.1.trans h.1, fun t ht => (k.2 t ht).trans (h.2 t ht)⟩
theorem Agree.mono {W W' : List Nat} {a b : List SV} (h : Agree W a b) (hs : ∀ t, t ∈ W → t ∈ W') : Agree W' a b := ⟨h.1, fun t ht => h.2 t (fun hm => ht (hs t hm))⟩

theorem getD_set (fr : List SV) (t k : Nat) (v : SV) : (fr.set t v).getD k undefV = if t = k ∧ t < fr.length then v else fr.getD k undefV := by
  simp only [List.getD, List.getElem?_set]
  by_cases h : t = k
  · subst h
    by_cases h2 : t < fr.length
    · simp [h2]
    · simp [h2]
  · simp [h]

theorem Agree.put (W : List Nat) (fr : List SV) (dst : Option Tmp) (v : SV) (h : ∀ d, dst = some d → d ∈ W) : Agree W fr (putV fr dst v) := by
  cases dst with
  | none => exact .refl _ _
  | some d =>
    refine ⟨by simp [putV], fun t ht => ?_⟩
    simp only [putV, getD_set]
    rw [if_neg]
    rintro ⟨rfl, _⟩
    exact ht (h d rfl)

theorem set_same {fr : List SV} {t : Nat} {v : SV} (h : (fr.getD t undefV).den = v.den) : denL (fr.set t v) = denL fr := by
  rw [denL_set, ← h]
  apply List.ext_getElem?
  intro i
  rw [List.getElem?_set]
  split
  · rename_i hi
    subst hi
    split
    · rename_i hlt
      rw [denL_length] at hlt
      rw [denL_get?, List.getElem?_eq_getElem hlt]
      simp [List.getD, List.getElem?_eq_getElem hlt]
    · rename_i hlt
      rw [List.getElem?_eq_none (by omega)]
  · rfl

theorem Sim.same {fr : List SV} {a : Act} (hs : Sim fr a) {t : Nat} {v : SV} (h : (fr.getD t undefV).den = v.den) : Sim (fr.set t v) a :=
  ⟨by rw [hs.1, set_same h], hs.2⟩

theorem Agree.same (W : List Nat) {fr : List SV} {t : Nat} {v : SV} (h : (fr.getD t undefV).den = v.den) : Agree W fr (fr.set t v) := by
  refine ⟨by simp, fun k _ => ?_⟩
  rw [getD_set]
  split
  · rename_i hk; rw [← hk.1, h]
  · rfl

theorem yield_of {ops : Array Oper} {fr : List SV} {a : Act} (hs : Sim fr a) {j t : Nat} {oj : Oper} {b : Bool} (hj : ops.toList[j]? = some oj) (hd : oj.dst = some t)
    (hv : (fr.getD t undefV).den = .bool b) : yielded ops a.tmps j = some b := by
  have hj' : ops[j]? = some oj := by rw [← Array.getElem?_toList]; exact hj
  have ht : a.tmps[t]? = some (.bool b) := by
    rw [hs.1, List.getElem?_toArray, denL_get?]
    cases hx : fr[t]? with
    | none => simp [List.getD, hx, undefV, SV.den, undef] at hv
    | some v => simp [List.getD, hx] at hv; simp [hv]
  simp [yielded, hj', hd, ht]

/-- A guard: one of two ways, at a frame that says the same. -/
theorem guard_ok {ops : Array Oper} {o : Oper} {fr : List SV} {a : Act} {ex sk : List SV → Prop} (hs : Sim fr a) (W : List Nat) (h : guardVC ops.toList o fr ex sk) :
    ∃ fr', Sim fr' a ∧ Agree W fr fr' ∧ ((Region.wanted o (yielded ops a.tmps) = true ∧ ex fr') ∨ (Region.wanted o (yielded ops a.tmps) = false ∧ sk fr')) := by
  unfold guardVC at h
  unfold Region.wanted
  split at h
  · rename_i hg
    refine ⟨fr, hs, .refl _ _, .inl ⟨?_, h⟩⟩
    rw [hg]
  · rename_i j want hg
    rw [hg]
    simp only
    split at h
    · exact h.elim
    · rename_i oj hj
      split at h
      · exact h.elim
      · rename_i t hd
        have fin : ∀ b : Bool, (fr.getD t undefV).den = .bool b → (if want = true then (if b = true then ex (fr.set t (.blit b)) else sk (fr.set t (.blit b))) else (if b = true then sk (fr.set t (.blit b)) else ex (fr.set t (.blit b)))) →
            ∃ fr', Sim fr' a ∧ Agree W fr fr' ∧ (((yielded ops a.tmps j == some want) = true ∧ ex fr') ∨ ((yielded ops a.tmps j == some want) = false ∧ sk fr')) := by
          intro b hb hx
          refine ⟨fr.set t (.blit b), hs.same hb, .same W hb, ?_⟩
          rw [yield_of hs hj hd hb]
          cases b <;> cases want <;> simp at hx ⊢ <;> exact hx
        split at h
        · rename_i b hv
          refine ⟨fr, hs, .refl _ _, ?_⟩
          rw [yield_of hs hj hd (b := b) (by rw [hv]; rfl)]
          split at h
          · rename_i hb; subst hb; left; exact ⟨by simp, h⟩
          · rename_i hb; right; exact ⟨by simpa using hb, h⟩
        · rename_i b hv
          refine fin b (by rw [hv]; rfl) ?_
          cases b
          · have := h.2 rfl; cases want <;> simpa using this
          · have := h.1 rfl; cases want <;> simpa using this
        · rename_i p d hv
          by_cases hp : p
          · refine fin true (by rw [hv]; simp [SV.den, hp]) ?_
            have := h.1 hp; cases want <;> simpa using this
          · refine fin false (by rw [hv]; simp [SV.den, hp]) ?_
            have := h.2 hp; cases want <;> simpa using this
        · rename_i vs hv
          refine ⟨fr, hs, .refl _ _, .inr ⟨?_, h⟩⟩
          have hj' : ops[j]? = some oj := by rw [← Array.getElem?_toList]; exact hj
          have hy : yielded ops a.tmps j = none := by
            unfold yielded
            rw [hj']
            simp only [Option.bind_some, hd, hs.1, List.getElem?_toArray, denL_get?]
            cases hx : fr[t]? with
            | none => rfl
            | some v => simp [List.getD, hx] at hv; simp [hv, SV.den]
          rw [hy]; rfl
        · exact h.elim

theorem vcOp_ok {cx : Cx} (hcx : cx.Ok P) {o : Oper} {ρ : Operand → SV} {h : Heap} {K : SV → Heap → Prop} (hv : vcOp P cx o ρ h K) : OpOk P o ρ h K := by
  unfold vcOp at hv
  split at hv
  · rename_i v hp
    exact opOk_value (v := v) fun w hw => ⟨w, pureOp_ok w _ ρ o.op none v hp trivial o rfl, Rest.refl w, by rw [hw]; exact hv⟩
  · rename_i p v hp
    exact opOk_value (v := v) fun w hw => ⟨w, pureOp_ok w _ ρ o.op (some p) v hp hv.1 o rfl, Rest.refl w, by rw [hw]; exact hv.2⟩
  · exact vcMem_ok hcx hv

theorem vcOps_ok {cx : Cx} (hcx : cx.Ok P) {ops : Array Oper} {Q : Exit → Act → World → Prop} {W : List Nat} {w0 : World} {fr0 : List SV} {K : List SV → Heap → Prop}
    (hK : ∀ fr' a' w', Sim fr' a' → Agree W fr0 fr' → Rest w0 w' → K fr' w'.heap → Q .normal a' w') :
    ∀ (rest : List Oper) (k : Nat), ops.toList.drop k = rest → (∀ o ∈ rest, ∀ d, o.dst = some d → d ∈ W) → ∀ (fr : List SV) (a : Act) (w : World), Sim fr a → Agree W fr0 fr → Rest w0 w →
      vcOps P cx ops.toList rest fr w.heap K → wpOps P ops Q (List.range' k rest.length) a w
  | [], k, _, _, fr, a, w, hs, hag, hr, h => hK fr a w hs hag hr h
  | o :: rest, k, hd, hW, fr, a, w, hs, hag, hr, h => by
    have hok : ops[k]? = some o := by
      rw [← Array.getElem?_toList]
      have := congrArg (fun l => l[0]?) hd
      simpa [List.getElem?_drop] using this
    have hd' : ops.toList.drop (k + 1) = rest := by
      have := congrArg (List.drop 1) hd
      simpa [List.drop_drop, Nat.add_comm] using this
    have hWo : ∀ d, o.dst = some d → d ∈ W := hW o (by simp)
    have hWr : ∀ o' ∈ rest, ∀ d, o'.dst = some d → d ∈ W := fun o' ho' => hW o' (by simp [ho'])
    show wpOps P ops Q (k :: List.range' (k + 1) rest.length) a w
    simp only [wpOps, hok]
    obtain ⟨fr', hs', hag', hx⟩ := guard_ok hs W h
    rcases hx with ⟨hw, hx⟩ | ⟨hw, hx⟩
    · rw [if_pos hw]
      refine .inl ?_
      refine vcOp_ok hcx hx w rfl a (ev_fun hs') _ Q ?_
      intro v w' hr' hk
      exact vcOps_ok hcx hK rest (k + 1) hd' hWr _ _ _ (hs'.put o.dst v) ((hag.trans hag').trans (.put W fr' o.dst v hWo)) (hr.trans hr') hk
    · rw [if_neg (by simp [hw])]
      have := vcOps_ok hcx hK rest (k + 1) hd' hWr _ (a.put o.dst undef) w (hs'.put o.dst undefV) ((hag.trans hag').trans (.put W fr' o.dst undefV hWo)) hr hx
      exact this

/-- A quiet operation: one value, in every world of one heap. -/
theorem vcQOp_ok {cx : Cx} (hcx : cx.Ok P) {o : Oper} {ρ : Operand → SV} {h : Heap} {K : SV → Prop} (hv : vcQOp P cx o ρ h K) (w0 : World) {a : Act} (ha : a.eval = fun x => (ρ x).den) {next : Act → Prop}
    (hn : ∀ v, K v → next (a.put o.dst v.den)) : o.quiet P a (fun w' => w'.heap = h ∧ Rest w0 w') next := by
  have fin : ∀ v : SV, K v → (∀ w : World, w.heap = h → (execOp (fun x => (ρ x).den) o).run P w = .ok (.value v.den) w) → o.quiet P a (fun w' => w'.heap = h ∧ Rest w0 w') next := by
    intro v hk hr
    refine ⟨v.den, fun w hw => ?_, hn v hk⟩
    unfold Oper.quietAt
    rw [ha, hr w hw.1]
    exact ⟨rfl, rfl⟩
  unfold vcQOp at hv
  split at hv
  · rename_i v hp
    exact fin v hv fun w _ => pureOp_ok w _ ρ o.op none v hp trivial o rfl
  · rename_i p v hp
    exact fin v hv.2 fun w _ => pureOp_ok w _ ρ o.op (some p) v hp hv.1 o rfl
  · split at hv
    · rename_i f args ts hop
      split at hv
      · rename_i n first cap hf
        have hrun : ∀ w : World, (execOp (fun x => (ρ x).den) o).run P w = (callFunc n (denL (first.toList.map ofCell ++ args.toList.map (fun x => norm (ρ x)) ++ cap.toList.map ofCell)).toArray).run P w := by
          intro w
          simp only [execOp, hop, resolve, invoke, Sem.run_bind, hf, SV.den, Deferred.ofValue, Sem.run_pure, Result.andThen]
          congr 2
          apply Array.ext'
          simp only [denL_append, denL_ofCells, Array.toList_append, Array.toList_map]
          congr 2
          rw [denL_map, List.map_map]
          apply List.map_congr_left
          intro x _
          exact (norm_den _).symm
        have finc : ∀ (p : Option Prop) (v : SV), cx.pure n (first.toList.map ofCell ++ args.toList.map (fun x => norm (ρ x)) ++ cap.toList.map ofCell) = some (p, v) → p.getD True → K v → o.quiet P a (fun w' => w'.heap = h ∧ Rest w0 w') next := by
          intro p v hp hpt hk
          obtain ⟨h1, h2⟩ := hcx n _ p v hp hpt h
          refine ⟨v.den, fun w hw => ?_, hn v hk⟩
          unfold Oper.quietAt
          rw [ha, hrun, h1]
          refine ⟨rfl, (h2 w hw.1).mono ?_⟩
          rintro e w' ⟨r, rfl, ⟨hr, hh⟩, hrest⟩
          exact ⟨by rw [hr], hh, hw.2.trans hrest⟩
        split at hv
        · rename_i v hp; exact finc none v hp trivial hv
        · rename_i p v hp; exact finc (some p) v hp hv.1 hv.2
        · exact hv.elim
      · exact hv.elim
    · rename_i op hnc
      split at hv
      · rename_i hl
        generalize hop : o.op = op' at hv hl
        unfold isLoad at hl
        split at hl
        · rename_i t x
          unfold vcMem at hv
          simp only at hv
          split at hv
          · rename_i p q d hx hq hd
            split at hv
            · rename_i hag
              split at hv
              · split at hv
                · rename_i hlen
                  obtain ⟨vs, hvl, hld, hk⟩ := exShs_out hv
                  refine fin (.agg vs) hk fun w hw => ?_
                  subst hw
                  simp only [execOp, hop, hx, SV.den]
                  exact run_next (run_load_agg w hq hd hag hld (by omega))
                · exact hv.elim
              · exact hv.elim
            · rename_i hag
              obtain ⟨v, hld, hk⟩ := exSh_out hv
              refine fin v hk fun w hw => ?_
              subst hw
              simp only [execOp, hop, hx, SV.den]
              exact run_next (run_load_one w hd (by simpa using hag) hld)
          · exact hv.elim
        · cases hl
      · exact hv.elim

theorem vcQs_ok {cx : Cx} (hcx : cx.Ok P) {ops : Array Oper} {W : List Nat} {w0 : World} {fr0 : List SV} {h : Heap} {K : List SV → Prop} {Q : Act → Prop}
    (hK : ∀ fr' a', Sim fr' a' → Agree W fr0 fr' → K fr' → Q a') :
    ∀ (rest : List Oper), (∀ o ∈ rest, ∀ d, o.dst = some d → d ∈ W) → ∀ (fr : List SV) (a : Act), Sim fr a → Agree W fr0 fr →
      vcQs P cx ops.toList rest fr h K → wpQuiet P ops (fun w' => w'.heap = h ∧ Rest w0 w') Q rest a
  | [], _, fr, a, hs, hag, hv => hK fr a hs hag hv
  | o :: rest, hW, fr, a, hs, hag, hv => by
    have hWo : ∀ d, o.dst = some d → d ∈ W := hW o (by simp)
    have hWr : ∀ o' ∈ rest, ∀ d, o'.dst = some d → d ∈ W := fun o' ho' => hW o' (by simp [ho'])
    simp only [wpQuiet]
    obtain ⟨fr', hs', hag', hx⟩ := guard_ok hs W hv
    rcases hx with ⟨hw, hx⟩ | ⟨hw, hx⟩
    · rw [if_pos hw]
      refine vcQOp_ok hcx hx w0 (ev_fun hs') ?_
      intro v hk
      exact vcQs_ok hcx hK rest hWr _ _ (hs'.put o.dst v) ((hag.trans hag').trans (.put W fr' o.dst v hWo)) hk
    · rw [if_neg (by simp [hw])]
      exact vcQs_ok hcx hK rest hWr _ _ (hs'.put o.dst undefV) ((hag.trans hag').trans (.put W fr' o.dst undefV hWo)) hx

/-- The post of a piece of code. -/
def Post (W : List Nat) (fr : List SV) (w0 : World) (Q : Exit → List SV → Heap → Prop) : Exit → Act → World → Prop :=
  fun e a' w' => ∃ fr', Sim fr' a' ∧ Agree W fr fr' ∧ Rest w0 w' ∧ Q e fr' w'.heap

theorem setAll_length (fr : List SV) (l : List (Nat × SV)) : (setAll fr l).length = fr.length := by
  induction l generalizing fr with
  | nil => rfl
  | cons q r ih => obtain ⟨t, v⟩ := q; simp [setAll, ih]

theorem setAll_out (fr : List SV) (l : List (Nat × SV)) (t : Nat) (h : ∀ q ∈ l, q.1 ≠ t) : (setAll fr l).getD t undefV = fr.getD t undefV := by
  induction l generalizing fr with
  | nil => rfl
  | cons q r ih =>
    obtain ⟨k, v⟩ := q
    simp only [setAll]
    rw [ih _ (fun q hq => h q (by simp [hq])), getD_set, if_neg]
    rintro ⟨rfl, _⟩
    exact h (k, v) (by simp) rfl

/-- Each slot set to a value that says what the slot says. -/
theorem setAll_in (fr g : List SV) (l : List (Nat × SV)) (hl : ∀ q ∈ l, q.1 < fr.length → (q.2).den = (g.getD q.1 undefV).den) (t : Nat)
    (h : (∃ q ∈ l, q.1 = t) ∨ (fr.getD t undefV).den = (g.getD t undefV).den) (ht : t < fr.length) : ((setAll fr l).getD t undefV).den = (g.getD t undefV).den := by
  induction l generalizing fr with
  | nil =>
    rcases h with ⟨q, hq, _⟩ | h
    · cases hq
    · exact h
  | cons q r ih =>
    obtain ⟨k, v⟩ := q
    simp only [setAll]
    refine ih (fr.set k v) (fun q hq hlt => hl q (by simp [hq]) (by simpa using hlt)) ?_ (by simpa using ht)
    rw [getD_set]
    by_cases hk : k = t
    · subst hk
      right
      rw [if_pos ⟨rfl, ht⟩]
      exact hl (k, v) (by simp) ht
    · rw [if_neg (by rintro ⟨h1, _⟩; exact hk h1)]
      rcases h with ⟨q, hq, hqt⟩ | h
      · rcases List.mem_cons.1 hq with rfl | hq
        · exact absurd hqt hk
        · exact .inl ⟨q, hq, hqt⟩
      · exact .inr h

theorem denL_ext {a b : List SV} (hl : a.length = b.length) (h : ∀ t, t < a.length → (a.getD t undefV).den = (b.getD t undefV).den) : denL a = denL b := by
  apply List.ext_getElem?
  intro i
  rw [denL_get?, denL_get?]
  by_cases hi : i < a.length
  · have := h i hi
    simp only [List.getD, List.getElem?_eq_getElem hi, List.getElem?_eq_getElem (hl ▸ hi), Option.getD_some] at this
    rw [List.getElem?_eq_getElem hi, List.getElem?_eq_getElem (hl ▸ hi)]
    simp [this]
  · rw [List.getElem?_eq_none (by omega), List.getElem?_eq_none (by omega)]

/-- A frame that agrees with the loop's outside what the loop writes is the loop's frame at its own values. -/
theorem loopFrame_sim {fr fr' : List SV} {ann : LoopAnn} {W : List Nat} (hag : Agree W fr fr') (hW : ∀ t ∈ W, t ∈ ann.live.map (·.1) ∨ t ∈ ann.dead) :
    denL (loopFrame fr ann (fun t => fr'.getD t undefV) (liveVals ann.live fr')) = denL fr' := by
  have hlen : (loopFrame fr ann (fun t => fr'.getD t undefV) (liveVals ann.live fr')).length = fr'.length := by
    simp only [loopFrame, setAll_length]
    exact hag.1.symm
  refine denL_ext hlen fun t ht => ?_
  have htf : t < fr.length := by simpa [loopFrame, setAll_length] using ht
  unfold loopFrame
  have hz : ∀ q ∈ (ann.live.map (·.1)).zip (liveVals ann.live fr'), q.2.den = (fr'.getD q.1 undefV).den := by
    unfold liveVals
    rw [List.zip_map', ]
    intro q hq
    obtain ⟨x, _, rfl⟩ := List.mem_map.1 hq
    exact norm_den _
  refine setAll_in _ fr' _ (fun q hq _ => hz q hq) t ?_ (by simpa [setAll_length] using htf)
  by_cases hl : t ∈ ann.live.map (·.1)
  · left
    obtain ⟨x, hx, rfl⟩ := List.mem_map.1 hl
    refine ⟨(x.1, norm (fr'.getD x.1 undefV)), ?_, rfl⟩
    unfold liveVals
    rw [List.zip_map']
    exact List.mem_map.2 ⟨x, hx, rfl⟩
  · right
    refine setAll_in _ fr' _ ?_ t ?_ htf
    · intro q hq _
      obtain ⟨x, _, rfl⟩ := List.mem_map.1 hq
      rfl
    · by_cases hd : t ∈ ann.dead
      · exact .inl ⟨(t, fr'.getD t undefV), List.mem_map.2 ⟨t, hd, rfl⟩, rfl⟩
      · right
        refine (hag.2 t ?_).symm
        intro hw
        rcases hW t hw with h | h
        · exact hl h
        · exact hd h

theorem vc_ok {cx : Cx} (hcx : cx.Ok P) : ∀ (c : Code) (bid : Nat) (Q : Exit → List SV → Heap → Prop) (fr : List SV) (w : World), vc P cx c bid Q fr w.heap →
    ∀ (w0 : World) (a : Act), Rest w0 w → Sim fr a → c.wp P (Post (writes c) fr w0 Q) a w := by
  intro c
  induction c with
  | skip => exact fun bid Q fr w h w0 a hr hs => wp_skip ⟨fr, hs, .refl _ _, hr, h⟩
  | label l => exact fun bid Q fr w h w0 a hr hs => wp_label ⟨fr, hs, .refl _ _, hr, h⟩
  | ret => exact fun bid Q fr w h w0 a hr hs => wp_ret ⟨fr, hs, .refl _ _, hr, h⟩
  | exit id => exact fun bid Q fr w h w0 a hr hs => wp_exit ⟨fr, hs, .refl _ _, hr, h⟩
  | region id ops draw =>
    intro bid Q fr w h w0 a hr hs
    have hW : ∀ o ∈ ops.toList, ∀ d, o.dst = some d → d ∈ writes (.region id ops draw) := by
      intro o ho d hd
      exact List.mem_filterMap.2 ⟨o, ho, hd⟩
    simp only [vc] at h
    split at h
    · rename_i hdr
      subst hdr
      split at h
      · split at h
        · rename_i hB
          refine wp_region_quiet (C := fun w' => w'.heap = w.heap ∧ Rest w0 w') hB.2 hB.1 ⟨rfl, ⟨hr.os, hr.tape, hr.output⟩⟩ ?_
          refine vcQs_ok hcx (fr0 := fr) (W := writes (.region id ops true)) ?_ ops.toList hW fr a hs (.refl _ _) h
          intro fr' a' hs' hag' hk w' hw'
          exact ⟨fr', hs', hag', hw'.2, by rw [hw'.1]; exact hk⟩
        · exact h.elim
      · exact h.elim
    · rename_i hdr
      have : draw = false := by simpa using hdr
      subst this
      refine wp_region ?_
      have := vcOps_ok hcx (ops := ops) (Q := Post (writes (.region id ops false)) fr w0 Q) (W := writes (.region id ops false)) (w0 := w0) (fr0 := fr)
        (K := fun fr' h' => Q .normal fr' h') (fun fr' a' w' h1 h2 h3 h4 => ⟨fr', h1, h2, h3, h4⟩) ops.toList 0 (by simp) hW fr a w hs (.refl _ _) hr h
      rw [List.range_eq_range']
      simpa using this
  | seq x y ihx ihy =>
    intro bid Q fr w h w0 a hr hs
    refine wp_seq ?_
    refine wp_mono (ihx bid _ fr w h w0 a hr hs) ?_
    rintro e a' w' ⟨fr', h1, h2, h3, h4⟩
    have hx : ∀ t, t ∈ writes x → t ∈ writes (.seq x y) := fun t ht => List.mem_append.2 (.inl ht)
    have hy : ∀ t, t ∈ writes y → t ∈ writes (.seq x y) := fun t ht => List.mem_append.2 (.inr ht)
    cases e with
    | normal =>
      refine wp_mono (ihy bid Q fr' w' h4 w0 a' h3 h1) ?_
      rintro e a'' w'' ⟨fr'', k1, k2, k3, k4⟩
      exact ⟨fr'', k1, (h2.mono hx).trans (k2.mono hy), k3, k4⟩
    | exit id => exact ⟨fr', h1, h2.mono hx, h3, h4⟩
    | goto id => exact ⟨fr', h1, h2.mono hx, h3, h4⟩
    | ret => exact ⟨fr', h1, h2.mono hx, h3, h4⟩
    | panic ch => exact ⟨fr', h1, h2.mono hx, h3, h4⟩
    | outgrown => exact ⟨fr', h1, h2.mono hx, h3, h4⟩
  | cond c x y ihx ihy =>
    intro bid Q fr w h w0 a hr hs
    have hx : ∀ t, t ∈ writes x → t ∈ writes (.cond c x y) := fun t ht => List.mem_append.2 (.inl ht)
    have hy : ∀ t, t ∈ writes y → t ∈ writes (.cond c x y) := fun t ht => List.mem_append.2 (.inr ht)
    have kx : vc P cx x bid Q fr w.heap → x.wp P (Post (writes (.cond c x y)) fr w0 Q) a w := fun h =>
      wp_mono (ihx bid Q fr w h w0 a hr hs) fun e a' w' ⟨fr', h1, h2, h3, h4⟩ => ⟨fr', h1, h2.mono hx, h3, h4⟩
    have ky : vc P cx y bid Q fr w.heap → y.wp P (Post (writes (.cond c x y)) fr w0 Q) a w := fun h =>
      wp_mono (ihy bid Q fr w h w0 a hr hs) fun e a' w' ⟨fr', h1, h2, h3, h4⟩ => ⟨fr', h1, h2.mono hy, h3, h4⟩
    have he := ev_den hs c
    simp only [vc] at h
    split at h
    · rename_i b hb
      rw [hb] at he
      cases b
      · exact wp_cond_false he (ky h)
      · exact wp_cond_true he (kx h)
    · rename_i b hb
      rw [hb] at he
      cases b
      · exact wp_cond_false he (ky (h.2 rfl))
      · exact wp_cond_true he (kx (h.1 rfl))
    · rename_i p d hb
      rw [hb] at he
      by_cases hp : p
      · exact wp_cond_true (by rw [he]; simp [SV.den, hp]) (kx (h.1 hp))
      · exact wp_cond_false (by rw [he]; simp [SV.den, hp]) (ky (h.2 hp))
    · exact h.elim
  | block id c ih =>
    intro bid Q fr w h w0 a hr hs
    refine wp_block ?_
    refine wp_mono (ih id _ fr w h w0 a hr hs) ?_
    rintro e a' w' ⟨fr', h1, h2, h3, h4⟩
    cases e with
    | exit i =>
      simp only [Exit.inBlock]
      simp only at h4
      split at h4
      · rename_i hi; rw [if_pos hi]; exact ⟨fr', h1, h2, h3, h4⟩
      · rename_i hi; rw [if_neg hi]; exact ⟨fr', h1, h2, h3, h4⟩
    | normal => exact ⟨fr', h1, h2, h3, h4⟩
    | goto id => exact ⟨fr', h1, h2, h3, h4⟩
    | ret => exact ⟨fr', h1, h2, h3, h4⟩
    | panic ch => exact ⟨fr', h1, h2, h3, h4⟩
    | outgrown => exact ⟨fr', h1, h2, h3, h4⟩
  | scope c ih =>
    intro bid Q fr w h w0 a hr hs
    refine wp_scope_straight ?_
    refine wp_mono (ih bid _ fr w h w0 a hr hs) ?_
    rintro e a' w' ⟨fr', h1, h2, h3, h4⟩
    cases e with
    | goto id => exact h4.elim
    | exit i => exact ⟨fr', h1, h2, h3, h4⟩
    | normal => exact ⟨fr', h1, h2, h3, h4⟩
    | ret => exact ⟨fr', h1, h2, h3, h4⟩
    | panic ch => exact ⟨fr', h1, h2, h3, h4⟩
    | outgrown => exact ⟨fr', h1, h2, h3, h4⟩
  | loop c ih =>
    intro bid Q fr w h w0 a hr hs
    simp only [vc] at h
    split at h
    · exact h.elim
    · rename_i ann _
      split at h
      · rename_i hc
        obtain ⟨hWb, hsh⟩ := hc
        obtain ⟨I, μ, h0, hround⟩ := h
        have hW : ∀ t ∈ writes c, t ∈ ann.live.map (·.1) ∨ t ∈ ann.dead := by
          intro t ht
          have := List.all_eq_true.1 hWb t ht
          simpa using this
        refine wp_loop_ghost (fun n a' w' => ∃ fr', Sim fr' a' ∧ Agree (writes c) fr fr' ∧ Rest w0 w' ∧ hasRs (ann.live.map (·.2)) (liveVals ann.live fr') = true ∧ I (liveVals ann.live fr') w'.heap ∧ μ (liveVals ann.live fr') w'.heap = n)
          _ ⟨fr, hs, .refl _ _, hr, hsh, h0, rfl⟩ ?_
        rintro n a' w' ⟨fr', h1, h2, h3, h4, h5, h6⟩
        have hb := allRs_at (hround (fun t => fr'.getD t undefV)) h4 w'.heap h5
        have hsim : Sim (loopFrame fr ann (fun t => fr'.getD t undefV) (liveVals ann.live fr')) a' :=
          ⟨by rw [loopFrame_sim h2 hW]; exact h1.1, h1.2⟩
        refine wp_mono (ih bid _ _ w' hb w0 a' h3 hsim) ?_
        rintro e a'' w'' ⟨fr'', k1, k2, k3, k4⟩
        have hag : Agree (writes c) fr fr'' := by
          refine ⟨?_, fun t ht => ?_⟩
          · rw [k2.1]; simp [loopFrame, setAll_length]
          · rw [k2.2 t ht]
            have hd := loopFrame_sim (fr := fr) h2 hW
            have hd' : (denL (loopFrame fr ann (fun t => fr'.getD t undefV) (liveVals ann.live fr'))).getD t undef = (denL fr').getD t undef := by rw [hd]
            rw [denL_getD, denL_getD] at hd'
            rw [hd', h2.2 t ht]
        cases e with
        | normal =>
          simp only at k4
          split at k4
          · rename_i hsh'
            refine ⟨μ (liveVals ann.live fr'') w''.heap, ?_, fr'', k1, hag, k3, hsh', k4.1, rfl⟩
            rw [← h6]; exact k4.2
          · exact k4.elim
        | goto id => exact ⟨fr'', k1, hag, k3, k4⟩
        | exit i => exact ⟨fr'', k1, hag, k3, k4⟩
        | ret => exact ⟨fr'', k1, hag, k3, k4⟩
        | panic ch => exact ⟨fr'', k1, hag, k3, k4⟩
        | outgrown => exact ⟨fr'', k1, hag, k3, k4⟩
      · exact h.elim
  | _ => exact fun bid Q fr w h => (by simp only [vc] at h)

def retV (rs : List Nat) (fr : List SV) : SV :=
  match rs with
  | [r] => norm (fr.getD r undefV)
  | rs => .tup (rs.map fun r => norm (fr.getD r undefV))

def finQ (rs : List Nat) (Q : SV → Heap → Prop) : Exit → List SV → Heap → Prop
  | .normal, fr, h => Q (retV rs fr) h
  | .ret, fr, h => Q (retV rs fr) h
  | _, _, _ => False

theorem calleeRuns_of {f : FuncId} {fn : Func} {c : Code} (hf : P.funcs[f]? = some fn) (hb : fn.body = some c) (hn : (fn.name == "runtime.NumGoroutine") = false) : CalleeRuns P f := by
  intro args w
  have hn' : ¬ fn.name = "runtime.NumGoroutine" := by simpa using hn
  simp [callFunc, hf, hn', hb]

theorem mapM_pure {fr : List SV} {a : Act} (hs : Sim fr a) (rs : List Nat) (w : World) (g : ResultVar → Sem Value) (hg : ∀ t, g (.tmp t) = pure (a.tmps.getD t undef)) :
    ((rs.map ResultVar.tmp).mapM g).run P w = .ok (rs.map fun r => (fr.getD r undefV).den) w := by
  induction rs with
  | nil => rfl
  | cons r rs ih =>
    have h1 : a.tmps.getD r undef = (fr.getD r undefV).den := by
      rw [hs.1]
      have := denL_getD fr r
      simpa using this
    simp only [List.map_cons, List.mapM_cons, Sem.run_bind, hg, Sem.run_pure, Result.andThen, ih, h1]

theorem results_run {fn : Func} {fr : List SV} {a : Act} (hs : Sim fr a) (rs : List Nat) (hres : fn.results = (rs.map ResultVar.tmp).toArray) (w : World) :
    (results fn a.tmps).run P w = .ok (retV rs fr).den w := by
  unfold results
  rw [Sem.run_bind, hres, Array.mapM_eq_mapM_toList, map_eq_pure_bind, Sem.run_bind]
  rw [mapM_pure (P := P) hs rs w _ (fun _ => rfl)]
  simp only [Result.andThen, Sem.run_pure]
  congr 1
  match rs with
  | [] => rfl
  | [r] => simp [retV, norm_den]
  | r :: r' :: rs' => simp [retV, SV.den, denL_map, denL, Function.comp_def, norm_den]

theorem callsH_of_vc {cx : Cx} (hcx : cx.Ok P) {f : FuncId} {fn : Func} {c : Code} {n : Nat} {rs : List Nat} {args : List SV} {h : Heap} {Q : SV → Heap → Prop}
    (hf : P.funcs[f]? = some fn) (hb : fn.body = some c) (hnm : (fn.name == "runtime.NumGoroutine") = false) (hn : fn.ntmps = n) (hres : fn.results = (rs.map ResultVar.tmp).toArray)
    (hv : vc P cx c 1000000 (finQ rs Q) (args ++ List.replicate (n - args.length) undefV) h) : CallsH P f args h Q := by
  refine ⟨calleeRuns_of hf hb hnm, fun w hw => ?_⟩
  subst hw
  refine calls_of_wp hf hb ?_
  have hs : Sim (args ++ List.replicate (n - args.length) undefV) { tmps := (denL args).toArray ++ Array.replicate (fn.ntmps - (denL args).toArray.size) undef, defers := [] } := by
    refine ⟨?_, rfl⟩
    simp only [denL_append, hn]
    apply Array.ext'
    simp [denL_length]
    rw [denL_map, List.map_replicate]
    rfl
  refine wp_mono (vc_ok hcx c _ _ _ w hv w _ (Rest.refl w) hs) ?_
  rintro e a' w' ⟨fr', h1, _, h3, h4⟩
  cases e with
  | normal => exact ⟨h1.2, _, results_run h1 rs hres w', _, rfl, h4, h3⟩
  | ret => exact ⟨h1.2, _, results_run h1 rs hres w', _, rfl, h4, h3⟩
  | exit id => exact h4.elim
  | goto l => exact h4.elim
  | panic ch => exact h4.elim
  | outgrown => exact h4.elim

/-! The table of what is known of callees. -/
def lkp (l : List (Nat × (List SV → Pu))) (n : FuncId) (args : List SV) : Pu :=
  match lk l n with
  | some g => g args
  | none => none

def PureOk (P : Program) (n : FuncId) (g : List SV → Pu) : Prop :=
  ∀ args, (g args).ok fun v => ∀ h, CallsH P n args h (fun r h' => r.den = v.den ∧ h' = h)

def TabOk (P : Program) (l : List (Nat × (List SV → Pu))) : Prop := ∀ n g, lk l n = some g → PureOk P n g

theorem TabOk.nil : TabOk P [] := by intro n g h; cases h
theorem TabOk.cons {l : List (Nat × (List SV → Pu))} {n : FuncId} {g : List SV → Pu} (h : PureOk P n g) (hl : TabOk P l) : TabOk P ((n, g) :: l) := by
  intro k g' hk
  simp only [lk] at hk
  split at hk
  · rename_i he; subst he; simp only [Option.some.injEq] at hk; subst hk; exact h
  · exact hl k g' hk

theorem cxOk {modes : List (Nat × Nat)} {loops : List (Nat × LoopAnn)} {tails : List (Nat × Nat)} {l : List (Nat × (List SV → Pu))} (h : TabOk P l) :
    Cx.Ok P { modes := modes, pure := lkp l, loops := loops, tails := tails } := by
  intro n args p v hp hpt h'
  simp only [lkp] at hp
  split at hp
  · rename_i g hg; exact h n g hg args p v hp hpt h'
  · cases hp

end
end Go.Vm
