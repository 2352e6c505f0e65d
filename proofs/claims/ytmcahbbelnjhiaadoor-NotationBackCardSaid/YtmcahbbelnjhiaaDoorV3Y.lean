/-
  Part Y: a loop over a string's runes, in a function that owns nothing.
-/
import Derived.Test.YtmcahbbelnjhiaaDoorV3X
set_option linter.unusedVariables false
namespace Go.V3
open Go
variable {TB : Tb} {P : Program}

def Inv (w w' : World) : Prop := Rest w w' ∧ w.heap.size ≤ w'.heap.size ∧ ∀ b, b < w.heap.size → w'.heap[b]? = w.heap[b]?
theorem Inv.refl (w : World) : Inv w w := ⟨.refl _, Nat.le_refl _, fun _ _ => rfl⟩
theorem Inv.trans {a b c : World} (h : Inv a b) (k : Inv b c) : Inv a c :=
  ⟨h.1.trans k.1, Nat.le_trans h.2.1 k.2.1, fun x hx => (k.2.2 x (Nat.lt_of_lt_of_le hx h.2.1)).trans (h.2.2 x hx)⟩
def cfN (TB : Tb) (G : Nat → Prop) (w : World) : Cfg TB := ⟨w, fun _ => False, G⟩
theorem holdsNil {G : Nat → Prop} {w w' : World} (h : Inv w w') (hG : ∀ b, G b → b < w.heap.size) (ht : (cfN TB G w).Tab) (E : Env) : Holds (cfN TB G w') G w' E [] := by
  refine ⟨.refl _, Nat.le_refl _, fun _ _ => rfl, fun b hb => Nat.lt_of_lt_of_le (hG b hb) h.2.1, fun _ h => h, fun _ h => .inl h, ?_, ?_, ?_, ?_⟩
  · intro n e he; simp [look] at he
  · intro n t xss q he; simp [look] at he
  · intro n k e f b _ he; simp [look] at he
  · intro q hq
    obtain ⟨⟨h1, _⟩, ty, fz, h2⟩ := ht q hq
    exact ⟨⟨Nat.lt_of_lt_of_le h1 h.2.1, fun x => x⟩, ty, fz, by rw [show (cfN TB G w').w0 = w' from rfl, h.2.2 _ h1]; exact h2⟩
theorem St.inv {G : Nat → Prop} {w w' : World} {E : Env} {fr : List SV} {L : Store} {a : Act} (h : St (cfN TB G w) E fr L a w') : Inv w w' := by
  obtain ⟨G', hG⟩ := h.hd
  exact ⟨hG.rest, hG.size, fun b hb => hG.old b ⟨hb, fun x => x⟩⟩
theorem St.recfg {c c' : Cfg TB} {E : Env} {fr : List SV} {L : Store} {a : Act} {w w' : World} (h : St c E fr L a w) (hd : Hd c' w' E L) : St c' E fr L a w' := ⟨h.sim, hd, h.wf⟩
theorem lext_nil {L : Store} (h : LExt [] L) : L = [] := List.length_eq_zero_iff.1 h.1

/-- A frame as it is at the head of the loop. -/
def annN (W : List Nat) : Ann := { live := [], boxes := [], rows := [], dead := W, lost := [], base := 0 }
def headF (W : List Nat) (fr : List SV) : List SV := setAll fr (W.map fun t => (t, .unk t))
def finB (fr : List SV) : Option Bool := toB (fr.getD 2 undefV)
section
variable (P) (cx : Cx) (rest tail : Code) (W : List Nat) (bid : Nat) (fr : List SV) (s : ByteArray)
noncomputable def tailB (fr' : List SV) : Option Bool := rk P cx tail Bool 1000000 (fun e fr'' _ => match e with
  | .normal => finB fr''
  | .ret => finB fr''
  | _ => none) fr' []
noncomputable def stepB (p : Nat) : Option (Nat ⊕ Bool) := cond (decide (p < s.size))
  (rk P cx rest (Nat ⊕ Bool) bid (fun e fr' _ => match e with
      | .normal => some (.inl (p + (Utf8.decode s p).2))
      | .ret => (finB fr').map .inr
      | .exit id => if id = bid then (tailB P cx tail fr').map .inr else none
      | _ => none) (((headF W fr).set 25 (.tup [.blit true, .int .i64 (p : Int), .int .i32 ((Utf8.decode s p).1 : Int)])).set 26 (.blit true)) [])
  (rk P cx rest (Nat ⊕ Bool) bid (fun e fr' _ => match e with
      | .ret => (finB fr').map .inr
      | .exit id => if id = bid then (tailB P cx tail fr').map .inr else none
      | _ => none) (((headF W fr).set 25 (.tup [.blit false])).set 26 (.blit false)) [])
noncomputable def loopB : Option Bool := loopO (σ := Nat) (β := Bool) (stepB P cx rest tail W bid fr s) 0
end

/-! One operation, run by hand. -/
theorem handOp {ops : Array Oper} {i : Nat} {o : Oper} (ho : ops[i]? = some o) (hg : o.guard = none) {a : Act} {w w' : World} {v : Value} {K : Act → World → Prop} {Q : Exit → Act → World → Prop}
    (hr : (execOp a.eval o).run P w = .ok (.value v) w') (hK : K (a.put o.dst v) w') : wpOp P ops Q i K a w := by
  unfold wpOp
  rw [ho]
  simp only [Region.wanted, hg, if_true]
  refine .inl ?_
  show o.upon P a K Q ((execOp a.eval o).run P w)
  rw [hr]
  exact hK
def pushW (w : World) (o : Obj) : World := { w with heap := w.heap.push o }
theorem run_range {ρ : Operand → Value} {o : Oper} {t : TypeId} {x : Operand} (ho : o.op = .range t x) (hu : P.underlying t = some .string) {s : ByteArray} (hx : ρ x = .string s) (w : World) :
    (execOp ρ o).run P w = .ok (.value (.pointer (some ⟨w.heap.size, 0, none⟩))) (pushW w (.stringIter s 0)) := by
  unfold execOp
  rw [ho]
  simp only [Instr.range, hx]
  have h1 := run_underlying (w := w) hu
  simp [h1, newObj, Sem.run, pushW]
theorem run_nextS {ρ : Operand → Value} {o : Oper} {x : Operand} (ho : o.op = .next x true) {b : Nat} (hx : ρ x = .pointer (some ⟨b, 0, none⟩)) {w : World} {s : ByteArray} {p : Nat} (hb : w.heap[b]? = some (.stringIter s p)) :
    (p < s.size → ∃ w', (execOp ρ o).run P w = .ok (.value (.tuple #[.bool true, .int .i64 (p : Int), .int .i32 ((Utf8.decode s p).1 : Int)])) w' ∧ Rest w w' ∧ w'.heap.size = w.heap.size ∧ w'.heap[b]? = some (.stringIter s (p + (Utf8.decode s p).2)) ∧ ∀ c, c ≠ b → w'.heap[c]? = w.heap[c]?) ∧
    (¬ p < s.size → (execOp ρ o).run P w = .ok (.value (.tuple #[.bool false])) w) := by
  have hlt : b < w.heap.size := by
    rcases Nat.lt_or_ge b w.heap.size with h | h
    · exact h
    · rw [Array.getElem?_eq_none h] at hb; cases hb
  constructor
  · intro hp
    refine ⟨{ w with heap := w.heap.setIfInBounds b (.stringIter s (p + (Utf8.decode s p).2)) }, ?_, ⟨rfl, rfl, rfl⟩, by simp, by simp [hlt], fun c hc => by simp [Ne.symm hc]⟩
    unfold execOp
    rw [ho]
    simp [Instr.next, hx, getObj, setObj, Sem.run, hb, hp, goInt]
  · intro hp
    unfold execOp
    rw [ho]
    simp [Instr.next, hx, getObj, Sem.run, hb, hp]
theorem run_move {ρ : Operand → Value} {o : Oper} {x : Operand} (ho : o.op = .move x) (w : World) : (execOp ρ o).run P w = .ok (.value (ρ x)) w := by
  unfold execOp; rw [ho]; rfl
theorem run_ext0 {ρ : Operand → Value} {o : Oper} {x : Operand} (ho : o.op = .extract x 0) {v : Value} {vs : Array Value} (hx : ρ x = .tuple vs) (hv : vs[0]? = some v) (w : World) : (execOp ρ o).run P w = .ok (.value v) w := by
  unfold execOp; rw [ho]; simp [Instr.extract, hx, hv]

/-! Parts of a function's text. -/
def sq1 : Code → Code
  | .seq a _ => a
  | c => c
def sq2 : Code → Code
  | .seq _ b => b
  | c => c
def blkC : Code → Code
  | .block _ c => c
  | c => c
def lpC : Code → Code
  | .loop c => c
  | c => c
def opAt (c : Code) (i : Nat) : Oper := match c with
  | .region _ ops _ => ops.toList.getD i default
  | _ => default
theorem finB_ok {c : Cfg TB} {E : Env} {fr : List SV} {L : Store} {a : Act} {w : World} (h : St c E fr L a w) {r : Bool} (hf : finB fr = some r) {fn : Func} (hres : fn.results = #[.tmp 2]) : (results fn a.tmps).run P w = .ok (.bool r) w := by
  have hd : a.tmps.getD 2 undef = .bool r := by
    have := ev_den h.sim (.tmp 2)
    show a.eval (.tmp 2) = _
    rw [this]
    exact toB_den hf
  unfold results
  rw [hres]
  have hd' : a.tmps[2]?.getD undef = .bool r := by simpa using hd
  simp [hd']

theorem put2_ext {W : List Nat} {E : Env} {fr : List SV} {L : Store} (h25 : 25 ∈ W) (h26 : 26 ∈ W) (u v : SV) : Ext W E fr L E ((fr.set 25 u).set 26 v) L := by
  refine ⟨fun _ h => ⟨rfl, h⟩, fun _ _ => rfl, .refl _, by simp, fun t ht => ?_⟩
  rw [getD_set, getD_set, if_neg (fun (h : 26 = t ∧ _) => ht (h.1 ▸ h26)), if_neg (fun (h : 25 = t ∧ _) => ht (h.1 ▸ h25))]
theorem headF_eq (W : List Nat) (fr : List SV) (x : (annN W).T) : hdFr (annN W) fr x = headF W fr := rfl
theorem headF_out {W : List Nat} {fr : List SV} {t : Nat} (h : t ∉ W) : (headF W fr).getD t undefV = fr.getD t undefV := by
  unfold headF
  refine setAll_out _ _ _ fun q hq => ?_
  obtain ⟨x, hx, rfl⟩ := List.mem_map.1 hq
  rintro rfl
  exact h hx

theorem getD_len {fr : List SV} {t : Nat} (h : fr.length ≤ t) : fr.getD t undefV = undefV := by simp [List.getD, List.getElem?_eq_none h]
theorem list_getD {a b : List SV} (hl : a.length = b.length) (h : ∀ t, a.getD t undefV = b.getD t undefV) : a = b := by
  apply List.ext_getElem hl
  intro i h1 h2
  have := h i
  simpa [List.getD, List.getElem?_eq_getElem h1, List.getElem?_eq_getElem h2] using this
theorem map_unk (W : List Nat) : (W.map fun t => (t, SV.unk t)).map (·.1) = W := by simp [List.map_map, Function.comp_def]
theorem headF_set {W : List Nat} (hnd : W.Nodup) {t : Nat} (ht : t ∈ W) (fr : List SV) (v : SV) : headF W (fr.set t v) = headF W fr := by
  have hl : ∀ l : List SV, (headF W l).length = l.length := fun l => setAll_length _ _
  refine list_getD (by rw [hl, hl, List.length_set]) fun k => ?_
  have hm : ((W.map fun t => (t, SV.unk t)).map (·.1)).Nodup := by rw [map_unk]; exact hnd
  by_cases hk : k ∈ W
  · by_cases hlt : k < fr.length
    · have h1 := setAll_in (fr.set t v) (W.map fun t => (t, SV.unk t)) hm (List.mem_map.2 ⟨k, hk, rfl⟩) (by simpa using hlt)
      have h2 := setAll_in fr (W.map fun t => (t, SV.unk t)) hm (List.mem_map.2 ⟨k, hk, rfl⟩) hlt
      exact h1.trans h2.symm
    · rw [getD_len (by rw [hl, List.length_set]; omega), getD_len (by rw [hl]; omega)]
  · rw [headF_out hk, headF_out hk, getD_set, if_neg (fun (h : t = k ∧ _) => hk (h.1 ▸ ht))]
theorem headF_in {W : List Nat} (hnd : W.Nodup) {t : Nat} (ht : t ∈ W) {fr : List SV} (hl : t < fr.length) : (headF W fr).getD t undefV = .unk t :=
  setAll_in fr (W.map fun t => (t, SV.unk t)) (by rw [map_unk]; exact hnd) (List.mem_map.2 ⟨t, ht, rfl⟩) hl

set_option maxHeartbeats 1000000 in
/-- A function that looks at its string, and then walks over it. -/
theorem callsV_str {cx : Cx} (hcx : cx.Ok P) {f : FuncId} {fn : Func} {r0 pre rest tail : Code} {i3 i4 bid n : Nat} {o1 o2 o3 o4 : Oper} {t : TypeId} {W : List Nat} {F : ByteArray → Option Bool}
    (hf : P.funcs[f]? = some fn) (hb : fn.body = some (.seq r0 (.seq pre (.seq (.seq (.region i3 #[o1, o2] false) (.block bid (.loop (.seq (.region i4 #[o3, o4] false) rest)))) tail))))
    (hnm : (fn.name == "runtime.NumGoroutine") = false) (hn : fn.ntmps = n) (hn1 : 27 ≤ n) (hres : fn.results = #[.tmp 2])
    (h1 : o1.op = .move (.tmp 0) ∧ o1.dst = some 23 ∧ o1.guard = none) (h2 : o2.op = .range t (.tmp 23) ∧ o2.dst = some 24 ∧ o2.guard = none) (hu : P.underlying t = some .string)
    (h3 : o3.op = .next (.tmp 24) true ∧ o3.dst = some 25 ∧ o3.guard = none) (h4 : o4.op = .extract (.tmp 25) 0 ∧ o4.dst = some 26 ∧ o4.guard = none)
    (hW : wrOk (annN W) (24 :: writes (.seq (.region i4 #[o3, o4] false) rest)) = true) (hW2 : (!W.contains 24 || !W.contains 25 || !W.contains 26 || (writes r0).contains 0 || (writes pre).contains 0 || (writes rest).contains 24) = false)
    (hF : ∀ s, F s = rk P cx r0 Bool 1000000 (fun e fr L => match e with
      | .normal => rk P cx pre Bool 1000000 (fun e fr _ => match e with
        | .normal => loopB P cx rest tail W bid (fr.set 23 (.str s)) s
        | .ret => finB fr
        | _ => none) fr L
      | _ => none) (.str s :: List.replicate (n - 1) undefV) []) :
    CallsV P cx.tb f { ps := [⟨.str, false, false, false⟩], rs := [⟨.bool, false, false, false⟩], os := [], bk := [], F := F } := by
  refine ⟨calleeRuns_of hf hb hnm, fun x r hr w G ms hG hps0 hnd htab => ?_⟩
  have hr' : F x = some r := hr
  rw [hF] at hr'
  have ht : (cfN cx.tb G w).Tab := fun q hq => by
    obtain ⟨⟨q1, _⟩, q2⟩ := htab q hq
    exact ⟨⟨q1, fun x => x⟩, q2⟩
  refine calls_of_wp hf hb ?_
  generalize hQ : bodyPost P fn (fun e w' => ∃ G' ms', e = .returned ((retSV (outSVs [⟨.bool, false, false, false⟩] (HT.left [⟨.bool, false, false, false⟩] [] r) 0)).den (envOf ms')) ∧
      Rest w w' ∧ w.heap.size ≤ w'.heap.size ∧ (∀ b, b < w.heap.size → b ∉ ownsP [⟨.str, false, false, false⟩] x ms → w'.heap[b]? = w.heap[b]?) ∧
      (∀ b, G b → G' b) ∧ (∀ b, G' b → G b ∨ w.heap.size ≤ b ∨ b ∈ ownsP [⟨.str, false, false, false⟩] x ms) ∧ (∀ b, G' b → b < w'.heap.size) ∧
      PS (⟨w, fun b => b ∈ ownsP [⟨.str, false, false, false⟩] x ms, G⟩ : Cfg cx.tb) G' w' ([⟨.bool, false, false, false⟩] ++ []) r ms' ∧ (ownsP ([⟨.bool, false, false, false⟩] ++ []) r ms').Nodup ∧
      (osPos [] (cnts [⟨.bool, false, false, false⟩])).map ms' = [].map ms) = Q
  have fin : ∀ (c : Cfg cx.tb) (E : Env) (fr : List SV) (L : Store) (a : Act) (w' : World), St c E fr L a w' → Inv w w' → finB fr = some r → Q .ret a w' ∧ Q .normal a w' := by
    intro c E fr L a w' hst hinv hfr
    subst hQ
    have key : a.defers = [] ∧ ∃ v, (results fn a.tmps).run P w' = .ok v w' ∧ (∃ G' ms', Ending.returned v = .returned ((retSV (outSVs [⟨.bool, false, false, false⟩] (HT.left [⟨.bool, false, false, false⟩] [] r) 0)).den (envOf ms')) ∧
      Rest w w' ∧ w.heap.size ≤ w'.heap.size ∧ (∀ b, b < w.heap.size → b ∉ ownsP [⟨.str, false, false, false⟩] x ms → w'.heap[b]? = w.heap[b]?) ∧
      (∀ b, G b → G' b) ∧ (∀ b, G' b → G b ∨ w.heap.size ≤ b ∨ b ∈ ownsP [⟨.str, false, false, false⟩] x ms) ∧ (∀ b, G' b → b < w'.heap.size) ∧
      PS (⟨w, fun b => b ∈ ownsP [⟨.str, false, false, false⟩] x ms, G⟩ : Cfg cx.tb) G' w' ([⟨.bool, false, false, false⟩] ++ []) r ms' ∧ (ownsP ([⟨.bool, false, false, false⟩] ++ []) r ms').Nodup ∧
      (osPos [] (cnts [⟨.bool, false, false, false⟩])).map ms' = [].map ms) := by
      refine ⟨hst.sim.2, _, finB_ok hst hfr hres, G, ms, rfl, hinv.1, hinv.2.1, fun b hb _ => hinv.2.2 b hb, fun _ h => h, fun _ h => .inl h, fun b hb => Nat.lt_of_lt_of_le (hG b hb) hinv.2.1, ⟨⟨?_, ?_⟩, trivial⟩, List.nodup_nil, rfl⟩
      · intro j e he; simp [ents] at he
      · intro h; cases h
    exact ⟨key, key⟩
  have hold : ∀ wi, Inv w wi → ∀ E, Hd (cfN cx.tb G wi) wi E [] := fun wi hi E => ⟨G, holdsNil hi hG ht E⟩
  simp only [Bool.or_eq_false_iff, Bool.not_eq_false', List.contains_eq_mem, decide_eq_false_iff_not, decide_eq_true_eq] at hW2
  obtain ⟨⟨⟨⟨⟨g24, g25⟩, g26⟩, gr0⟩, gpre⟩, grest⟩ := hW2
  -- the beginning
  have hs0 : St (cfN cx.tb G w) (envOf ms) (.str x :: List.replicate (n - 1) undefV) [] { tmps := (denL (envOf ms) (outSVs [⟨.str, false, false, false⟩] x 0)).toArray ++ Array.replicate (fn.ntmps - (denL (envOf ms) (outSVs [⟨.str, false, false, false⟩] x 0)).toArray.size) undef, defers := [] } w := by
    refine ⟨⟨?_, rfl⟩, hold w (.refl w) _, ?_⟩
    · apply Array.ext'
      simp [outSVs, outSV, unp, denL, SV.den, hn]
      rw [denL_map, List.map_replicate]
      exact ⟨rfl, rfl⟩
    · intro k
      left
      cases k with
      | zero => trivial
      | succ k =>
        simp only [List.getD, List.getElem?_cons_succ, List.getElem?_replicate]
        split <;> exact undef_wf _ _
  refine wp_seq (wp_mono (rk_ok hcx r0 Bool 1000000 _ _ [] r hr' (cfN cx.tb G w) (envOf ms) _ w hs0) ?_)
  rintro e a1 w1 ⟨E1, fr1, L1, st1, ext1, k1⟩
  obtain rfl := lext_nil ext1.lext
  cases e with
  | normal =>
    have inv1 : Inv w w1 := st1.inv
    have st1' := st1.recfg (hold w1 inv1 E1)
    refine wp_seq (wp_mono (rk_ok hcx pre Bool 1000000 _ _ [] r k1 (cfN cx.tb G w1) E1 _ w1 st1') ?_)
    rintro e a2 w2 ⟨E2, fr2, L2, st2, ext2, k2⟩
    obtain rfl := lext_nil ext2.lext
    have inv2 : Inv w w2 := inv1.trans st2.inv
    have hf0 : fr2.getD 0 undefV = .str x := by
      rw [ext2.out 0 gpre, ext1.out 0 gr0]; rfl
    have hl2 : fr2.length = n := by
      rw [ext2.len, ext1.len]; simp; omega
    cases e with
    | ret => exact (fin _ _ _ _ _ _ st2 inv2 k2).1
    | normal =>
      -- the iterator
      show (Code.seq (.seq (.region i3 #[o1, o2] false) (.block bid (.loop (.seq (.region i4 #[o3, o4] false) rest)))) tail).wp P Q a2 w2
      have k3 : loopB P cx rest tail W bid (fr2.set 23 (.str x)) x = some r := k2
      unfold loopB at k3
      obtain ⟨m, hm⟩ := loopO_spec.1 k3
      generalize hB : w2.heap.size = B
      refine wp_seq (wp_seq (wp_region ?_))
      rw [show List.range (#[o1, o2] : Array Oper).size = [0, 1] from rfl, wpOps_cons]
      have hx0 : a2.eval (.tmp 0) = .string x := by
        rw [ev_den st2.sim (.tmp 0)]
        show (fr2.getD 0 undefV).den E2 = _
        rw [hf0]; rfl
      refine handOp (o := o1) rfl h1.2.2 (run_move h1.1 w2) ?_
      rw [hx0, h1.2.1, wpOps_cons]
      have sm1 : Sim E2 (fr2.set 23 (.str x)) (a2.put (some 23) (.string x)) := st2.sim.put (some 23) (.str x)
      have hx1 : (a2.put (some 23) (.string x)).eval (.tmp 23) = .string x := by
        rw [ev_den sm1 (.tmp 23)]
        show ((fr2.set 23 (.str x)).getD 23 undefV).den E2 = _
        rw [getD_set, if_pos ⟨rfl, by omega⟩]; rfl
      refine handOp (o := o2) rfl h2.2.2 (run_range h2.1 hu hx1 w2) ?_
      rw [h2.2.1, hB]
      have sm2 : Sim E2 ((fr2.set 23 (.str x)).set 24 (.ptr (some ⟨B, 0, none⟩))) ((a2.put (some 23) (.string x)).put (some 24) (.pointer (some ⟨B, 0, none⟩))) := sm1.put (some 24) (.ptr (some ⟨B, 0, none⟩))
      generalize hw3 : pushW w2 (.stringIter x 0) = w3
      have inv3 : Inv w w3 := by
        refine inv2.trans ⟨?_, ?_, ?_⟩
        · subst hw3; exact ⟨rfl, rfl, rfl⟩
        · subst hw3; simp [pushW]
        · intro b hb; subst hw3; simp only [pushW]; rw [Array.getElem?_push, if_neg (by omega)]
      have hit : w3.heap[B]? = some (.stringIter x 0) := by
        rw [← hw3, ← hB]
        exact Array.getElem?_push_size
      have hBw : w.heap.size ≤ B := by rw [← hB]; exact inv2.2.1
      have hBs : B < w3.heap.size := by subst hw3; subst hB; simp [pushW]
      generalize hfr3 : (fr2.set 23 (.str x)).set 24 (.ptr (some ⟨B, 0, none⟩)) = fr3 at sm2
      have hl3 : fr3.length = n := by subst hfr3; simpa using hl2
      have wf3 : FrWf E2 [] fr3 := by
        subst hfr3
        intro k
        rw [getD_set, getD_set]
        split
        · exact .inl trivial
        · split
          · exact .inl trivial
          · exact st2.wf k
      generalize ((a2.put (some 23) (.string x)).put (some 24) (.pointer (some ⟨B, 0, none⟩))) = a3 at sm2
      have st3 : St (cfN cx.tb G w3) E2 fr3 [] a3 w3 := ⟨sm2, hold w3 inv3 E2, wf3⟩
      have hnd : W.Nodup := by
        have := hW
        unfold wrOk annN at this
        simp only [Bool.and_eq_true, decide_eq_true_eq, List.map_nil, List.nil_append] at this
        exact this.2
      have hhd : headF W fr3 = headF W (fr2.set 23 (.str x)) := by
        rw [← hfr3]; exact headF_set hnd g24 _ _
      generalize hVW : 24 :: writes (.seq (.region i4 #[o3, o4] false) rest) = VW at hW
      have v24 : 24 ∈ VW := by rw [← hVW]; simp
      have v25 : 25 ∈ VW := by rw [← hVW]; exact List.mem_cons_of_mem _ (List.mem_append.2 (.inl (List.mem_filterMap.2 ⟨o3, by simp, h3.2.1⟩)))
      have v26 : 26 ∈ VW := by rw [← hVW]; exact List.mem_cons_of_mem _ (List.mem_append.2 (.inl (List.mem_filterMap.2 ⟨o4, by simp, h4.2.1⟩)))
      have vrest : ∀ t, t ∈ writes rest → t ∈ VW := by
        intro t ht
        rw [← hVW]
        exact List.mem_cons_of_mem _ (List.mem_append.2 (.inr ht))
      have hpk : ∀ fr' : List SV, packSt (annN W) [] fr' [] = some () := by
        intro fr'
        rfl
      obtain ⟨E4, st4, ext4⟩ := reabs (ann := annN W) hW (holdsNil inv3 hG ht E2) wf3 st3 (.refl VW E2 fr3 []) (hpk fr3)
      have he3 : a3.eval (.tmp 24) = .pointer (some ⟨B, 0, none⟩) := by
        rw [ev_den sm2 (.tmp 24)]
        show (fr3.getD 24 undefV).den E2 = _
        rw [← hfr3, getD_set, if_pos ⟨rfl, by simp; omega⟩]; rfl
      have hl4 : (headF W fr3).length = n := by rw [show (headF W fr3).length = fr3.length from setAll_length _ _]; exact hl3
      generalize hQ' : Exit.then (tail.wp P Q) Q = Q'
      have loop : ∀ (m p : Nat) (a : Act) (wi : World) (E : Env), iterN (stepB P cx rest tail W bid (fr2.set 23 (.str x)) x) m p = some r → St (cfN cx.tb G wi) E (headF W fr3) [] a wi → Ext VW E2 fr3 [] E (headF W fr3) [] →
          a.eval (.tmp 24) = .pointer (some ⟨B, 0, none⟩) → Inv w wi → wi.heap[B]? = some (.stringIter x p) → Code.rounds P (.seq (.region i4 #[o3, o4] false) rest) (Exit.inBlock bid Q') m a wi := by
        intro m
        induction m with
        | zero => intro p a wi E hm; cases hm
        | succ m ih =>
          intro p a wi E hm hst hext he hinv hcell
          have hBi : B < wi.heap.size := by
            rcases Nat.lt_or_ge B wi.heap.size with h | h
            · exact h
            · rw [Array.getElem?_eq_none h] at hcell; cases hcell
          rw [rounds_succ]
          refine wp_seq (wp_region ?_)
          rw [show List.range (#[o3, o4] : Array Oper).size = [0, 1] from rfl, wpOps_cons]
          obtain ⟨n1, n2⟩ := run_nextS (P := P) (ρ := a.eval) h3.1 he hcell
          rw [iterN] at hm
          -- what comes behind the two operations
          have after : ∀ (sv : SV) (b : Bool) (wj : World) (K : Exit → List SV → Store → Option (Nat ⊕ Bool)) (y : Nat ⊕ Bool), sv.wf E [] → (∃ vs : Array Value, sv.den E = .tuple vs ∧ vs[0]? = some (.bool b)) → Inv w wj →
              rk P cx rest (Nat ⊕ Bool) bid K (((headF W fr3).set 25 sv).set 26 (.blit b)) [] = some y →
              (∀ (E' : Env) (fr' : List SV) (a' : Act) (w' : World), St (cfN cx.tb G wj) E' fr' [] a' w' → Ext VW E2 fr3 [] E' fr' [] → a'.eval (.tmp 24) = .pointer (some ⟨B, 0, none⟩) → ∀ e, K e fr' [] = some y → Exit.then (Code.rounds P (.seq (.region i4 #[o3, o4] false) rest) (Exit.inBlock bid Q') m) (Exit.inBlock bid Q') e a' w') →
              wpOps P #[o3, o4] (Exit.then (rest.wp P (Exit.then (Code.rounds P (.seq (.region i4 #[o3, o4] false) rest) (Exit.inBlock bid Q') m) (Exit.inBlock bid Q'))) (Exit.then (Code.rounds P (.seq (.region i4 #[o3, o4] false) rest) (Exit.inBlock bid Q') m) (Exit.inBlock bid Q'))) [1] (a.put o3.dst (sv.den E)) wj := by
            intro sv b wj K y hwf ⟨vs, hv1, hv2⟩ hij hrk hK
            rw [wpOps_cons, h3.2.1]
            have sm : Sim E ((headF W fr3).set 25 sv) (a.put (some 25) (sv.den E)) := hst.sim.put (some 25) sv
            have he25 : (a.put (some 25) (sv.den E)).eval (.tmp 25) = .tuple vs := by
              rw [ev_den sm (.tmp 25)]
              show (((headF W fr3).set 25 sv).getD 25 undefV).den E = _
              rw [getD_set, if_pos ⟨rfl, by omega⟩]; exact hv1
            refine handOp (o := o4) rfl h4.2.2 (run_ext0 h4.1 he25 hv2 wj) ?_
            rw [h4.2.1]
            have sm' : Sim E (((headF W fr3).set 25 sv).set 26 (.blit b)) ((a.put (some 25) (sv.den E)).put (some 26) (.bool b)) := sm.put (some 26) (.blit b)
            have wf' : FrWf E [] (((headF W fr3).set 25 sv).set 26 (.blit b)) := by
              intro k
              rw [getD_set, getD_set]
              split
              · exact .inl trivial
              · split
                · exact .inl hwf
                · exact hst.wf k
            have st' : St (cfN cx.tb G wj) E (((headF W fr3).set 25 sv).set 26 (.blit b)) [] ((a.put (some 25) (sv.den E)).put (some 26) (.bool b)) wj := ⟨sm', hold wj hij E, wf'⟩
            have he24 : ((a.put (some 25) (sv.den E)).put (some 26) (.bool b)).eval (.tmp 24) = .pointer (some ⟨B, 0, none⟩) := by
              rw [ev_den sm' (.tmp 24)]
              show ((((headF W fr3).set 25 sv).set 26 (.blit b)).getD 24 undefV).den E = _
              rw [getD_set, if_neg (by omega), getD_set, if_neg (by omega), ← he, ev_den hst.sim (.tmp 24)]
              rfl
            refine wp_mono (rk_ok hcx rest (Nat ⊕ Bool) bid K _ [] y hrk (cfN cx.tb G wj) E _ wj st') ?_
            rintro e a' w' ⟨E', fr', L', s1, s2, s3⟩
            obtain rfl := lext_nil s2.lext
            refine hK E' fr' a' w' s1 ((hext.trans (put2_ext v25 v26 _ _)).trans (s2.mono vrest)) ?_ e s3
            rw [ev_den s1.sim (.tmp 24)]
            show (fr'.getD 24 undefV).den E' = _
            have u24 : (((headF W fr3).set 25 sv).set 26 (.blit b)).getD 24 undefV = .unk 24 := by
              rw [getD_set, if_neg (by omega), getD_set, if_neg (by omega), headF_in hnd g24 (by omega)]
            rw [s2.out 24 grest, u24]
            show E'.ds 24 = _
            rw [s2.ds 24 grest]
            have := ev_den sm' (.tmp 24)
            rw [he24] at this
            have h5 : (ev (((headF W fr3).set 25 sv).set 26 (.blit b)) (.tmp 24)) = .unk 24 := u24
            rw [h5] at this
            exact this.symm
          have tailOk : ∀ (c : Cfg cx.tb) (E' : Env) (fr' : List SV) (a' : Act) (w' : World), St c E' fr' [] a' w' → Inv w w' → tailB P cx tail fr' = some r → tail.wp P Q a' w' := by
            intro c E' fr' a' w' s1 s2 s3
            have s1' := s1.recfg (hold w' s2 E')
            refine wp_mono (rk_ok hcx tail Bool 1000000 _ _ [] r s3 (cfN cx.tb G w') E' _ w' s1') ?_
            rintro e a6 w6 ⟨E6, fr6, L6, q1, q2, q3⟩
            have q4 := s2.trans q1.inv
            cases e with
            | normal => exact (fin _ _ _ _ _ _ q1 q4 q3).2
            | ret => exact (fin _ _ _ _ _ _ q1 q4 q3).1
            | exit id => cases q3
            | goto l => cases q3
            | panic ch => cases q3
            | outgrown => cases q3
          by_cases hp : p < x.size
          · obtain ⟨wj, r1, r2, r3, r4, r5⟩ := n1 hp
            have hij : Inv w wj := ⟨hinv.1.trans r2, by have := hinv.2.1; omega, fun b hb => (r5 b (by omega)).trans (hinv.2.2 b hb)⟩
            refine handOp (o := o3) rfl h3.2.2 r1 ?_
            have hd : (SV.tup [.blit true, .int .i64 (p : Int), .int .i32 ((Utf8.decode x p).1 : Int)]).den E = .tuple #[.bool true, .int .i64 (p : Int), .int .i32 ((Utf8.decode x p).1 : Int)] := by simp [SV.den, denL]
            rw [← hd]
            have common : ∀ y, stepB P cx rest tail W bid (fr2.set 23 (.str x)) x p = some y → (∀ s', y = .inl s' → iterN (stepB P cx rest tail W bid (fr2.set 23 (.str x)) x) m s' = some r) → (∀ b, y = .inr b → b = r) → wpOps P #[o3, o4] (Exit.then (rest.wp P (Exit.then (Code.rounds P (.seq (.region i4 #[o3, o4] false) rest) (Exit.inBlock bid Q') m) (Exit.inBlock bid Q'))) (Exit.then (Code.rounds P (.seq (.region i4 #[o3, o4] false) rest) (Exit.inBlock bid Q') m) (Exit.inBlock bid Q'))) [1] (a.put o3.dst ((SV.tup [.blit true, .int .i64 (p : Int), .int .i32 ((Utf8.decode x p).1 : Int)]).den E)) wj := by
              intro y hy hl hr2
              unfold stepB at hy
              rw [decide_eq_true hp, ← hhd] at hy
              refine after _ true wj _ y (by simp [SV.wf, wfL]) ⟨_, hd, rfl⟩ hij hy ?_
              intro E' fr' a' w' s1 s2 s3 e hk
              have invw := hij.trans s1.inv
              have hcell' : w'.heap[B]? = some (.stringIter x (p + (Utf8.decode x p).2)) := by
                rw [s1.inv.2.2 B (by rw [r3]; exact hBi)]; exact r4
              cases e with
              | normal =>
                simp only [Option.some.injEq] at hk
                obtain ⟨E7, t1, t2⟩ := reabs (ann := annN W) hW (holdsNil invw hG ht E2) wf3 (s1.recfg (hold w' invw E')) s2 (hpk fr')
                exact ih _ a' w' E7 (hl _ hk.symm) t1 t2 s3 invw hcell'
              | ret =>
                obtain ⟨z, z1, z2⟩ := map_inr hk
                have := (fin _ _ _ _ _ _ s1 invw (by rw [z1, hr2 z z2])).1
                subst hQ'
                exact this
              | exit id =>
                simp only at hk
                split at hk
                · rename_i hid
                  obtain ⟨z, z1, z2⟩ := map_inr hk
                  subst hQ'
                  simp only [Exit.then, Exit.inBlock]
                  rw [if_pos hid]
                  exact tailOk _ E' fr' a' w' s1 invw (by rw [z1, hr2 z z2])
                · cases hk
              | goto l => cases hk
              | panic ch => cases hk
              | outgrown => cases hk
            split at hm
            · cases hm
            · rename_i s' hst'
              exact common _ hst' (fun s'' h => by cases h; exact hm) (fun b h => by cases h)
            · rename_i b hst'
              simp only [Option.some.injEq] at hm
              exact common _ hst' (fun s'' h => by cases h) (fun b' h => by cases h; exact hm)
          · refine handOp (o := o3) rfl h3.2.2 (n2 hp) ?_
            have hd : (SV.tup [.blit false]).den E = .tuple #[.bool false] := by simp [SV.den, denL]
            rw [← hd]
            have common : ∀ y, stepB P cx rest tail W bid (fr2.set 23 (.str x)) x p = some y → (∀ b, y = .inr b → b = r) → wpOps P #[o3, o4] (Exit.then (rest.wp P (Exit.then (Code.rounds P (.seq (.region i4 #[o3, o4] false) rest) (Exit.inBlock bid Q') m) (Exit.inBlock bid Q'))) (Exit.then (Code.rounds P (.seq (.region i4 #[o3, o4] false) rest) (Exit.inBlock bid Q') m) (Exit.inBlock bid Q'))) [1] (a.put o3.dst ((SV.tup [.blit false]).den E)) wi := by
              intro y hy hr2
              unfold stepB at hy
              rw [decide_eq_false hp, ← hhd] at hy
              refine after _ false wi _ y (by simp [SV.wf, wfL]) ⟨_, hd, rfl⟩ hinv hy ?_
              intro E' fr' a' w' s1 s2 s3 e hk
              have invw := hinv.trans s1.inv
              cases e with
              | ret =>
                obtain ⟨z, z1, z2⟩ := map_inr hk
                have := (fin _ _ _ _ _ _ s1 invw (by rw [z1, hr2 z z2])).1
                subst hQ'
                exact this
              | exit id =>
                simp only at hk
                split at hk
                · rename_i hid
                  obtain ⟨z, z1, z2⟩ := map_inr hk
                  subst hQ'
                  simp only [Exit.then, Exit.inBlock]
                  rw [if_pos hid]
                  exact tailOk _ E' fr' a' w' s1 invw (by rw [z1, hr2 z z2])
                · cases hk
              | normal => cases hk
              | goto l => cases hk
              | panic ch => cases hk
              | outgrown => cases hk
            split at hm
            · cases hm
            · rename_i s' hst'
              exact common _ hst' (fun b h => by cases h)
            · rename_i b hst'
              simp only [Option.some.injEq] at hm
              exact common _ hst' (fun b' h => by cases h; exact hm)
      exact wp_block (wp_loop_rounds m (loop m 0 a3 w3 E4 hm st4 ext4 he3 inv3 hit))
    | exit id => cases k2
    | goto l => cases k2
    | panic ch => cases k2
    | outgrown => cases k2
  | ret => cases k1
  | exit id => cases k1
  | goto l => cases k1
  | panic ch => cases k1
  | outgrown => cases k1
end Go.V3
