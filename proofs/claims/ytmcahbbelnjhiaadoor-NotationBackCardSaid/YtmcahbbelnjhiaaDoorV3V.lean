/-
  Part V: what a law is handed, as plain values.
-/
import Derived.Test.YtmcahbbelnjhiaaDoorV3U
set_option linter.unusedVariables false
namespace Go.V3
open Go Go.RowKit Go.ChangeShapes Go.WideShapes
variable {TB : Tb}

/-- In range. -/
def Wf : (t : Ty) → t.T → Prop
  | .int k, x => (Lit.int k x).wf = true
  | .pair a b, x => Wf a x.1 ∧ Wf b x.2
  | .slice a, xs => (xs : List a.T).length ≤ maxLen ∧ ∀ x ∈ (xs : List a.T), Wf a x
  | .flt, x => (x : Nat) < 18446744073709551616
  | _, _ => True

def laidL (P : Program) (f : TypeId → Ty → Bool) : List Field → Ty → Nat → Bool
  | [], _, _ => false
  | [x], T, off => x.offset == off && P.cellsOf x.type == T.sz && f x.type T
  | x :: r, .pair a b, off => x.offset == off && P.cellsOf x.type == a.sz && f x.type a && laidL P f r b (off + a.sz)
  | _ :: _, _, _ => false
def laid (P : Program) : Nat → TypeId → Ty → Bool
  | 0, _, _ => false
  | n + 1, t, T => match P.underlying t with
    | some (.int .u64) => (match T with | .u64 => true | _ => false)
    | some (.int k) => (match T with | .int k' => decide (k = k') | _ => false)
    | some .bool => (match T with | .bool => true | _ => false)
    | some .string => (match T with | .str => true | _ => false)
    | some (.float .f64) => (match T with | .flt => true | _ => false)
    | some (.slice e) => (match T with | .slice a => P.cellsOf e == a.sz && decide (0 < a.sz) && laid P n e a | _ => false)
    | some (.struct fs) => P.cellsOf t == T.sz && laidL P (laid P n) fs.toList T 0
    | _ => false

theorem cellsAt_of_cells? {w : World} {a : Addr} {n : Nat} {l : List Value} (h : w.cells? 0 a n = some l) (hn : 0 < n) :
    a.spot = none ∧ ∃ arr ty fz, w.heap[a.block]? = some (.cells arr ty fz) ∧ l = cellsAt arr a.off n ∧ l.length = n := by
  obtain ⟨-, hl, hc⟩ := World.cells?_some h
  have hs : a.spot = none := by
    have h0 := hc 0 hn
    rw [List.getElem?_eq_getElem (by omega)] at h0
    unfold World.cell? at h0
    split at h0
    · split at h0
      · cases h0
      · rename_i hsp
        have e : a.add 0 = a := by simp [Addr.add]
        rw [e] at hsp
        simpa using hsp
    · cases h0
  refine ⟨hs, ?_⟩
  have hadd : ∀ i, (a.add i).block = a.block ∧ (a.add i).off = a.off + i ∧ (a.add i).spot = none := by
    intro i
    unfold Addr.add
    split
    · rename_i h0; subst h0; exact ⟨rfl, rfl, hs⟩
    · exact ⟨rfl, rfl, by first | rfl | exact hs⟩
  have h0 := hc 0 hn
  rw [List.getElem?_eq_getElem (by omega)] at h0
  unfold World.cell? at h0
  rw [(hadd 0).1] at h0
  split at h0
  rotate_left
  · cases h0
  rename_i arr ty fz hb
  refine ⟨arr, ty, fz, hb, ?_, hl⟩
  apply List.ext_getElem?
  intro i
  unfold cellsAt
  rw [List.getElem?_take]
  split
  · rename_i hi
    rw [← hc i hi]
    unfold World.cell?
    rw [(hadd i).1, hb]
    simp only [(hadd i).2.2, (hadd i).2.1]
    simp [List.getElem?_drop]
  · rename_i hi
    exact List.getElem?_eq_none (by omega)

section
variable {H : Type} {enc : TypeId × Value → H} {P : Program} {w : World} {held : Bool}

theorem rp_of_trod : ∀ (n : Nat) (t : TypeId) (T : Ty), laid P n t T = true → ∀ (fuel : Nat) (cs : List Value) (x : DataW H × List MemPlace), DataW.trod enc P w 0 (fun _ => true) held fuel t cs = some x →
    ∃ y : T.T, Rp (fun b => b < w.heap.size) w T y cs ∧ Wf T y := by
  intro n
  induction n with
  | zero => intro t T h; cases h
  | succ n ih =>
    intro t T h fuel cs x hx
    unfold laid at h
    split at h
    · rename_i hu
      split at h
      · obtain ⟨m, rfl, -, hw⟩ := DataW.trod_int hu hx
        obtain ⟨y, rfl⟩ := u64_of_wf hw
        exact ⟨y, rfl, trivial⟩
      · cases h
    · rename_i k hk hu
      split at h
      · rename_i k'
        have := of_decide_eq_true h
        subst this
        obtain ⟨m, rfl, -, hw⟩ := DataW.trod_int hu hx
        exact ⟨m, rfl, hw⟩
      · cases h
    · rename_i hu
      split at h
      · obtain ⟨b, rfl, -⟩ := DataW.trod_bool hu hx
        exact ⟨b, rfl, trivial⟩
      · cases h
    · rename_i hu
      split at h
      · obtain ⟨s, rfl, -⟩ := DataW.trod_string hu hx
        exact ⟨s, rfl, trivial⟩
      · cases h
    · rename_i hu
      split at h
      · cases fuel with
        | zero => simp [DataW.trod] at hx
        | succ m =>
          unfold DataW.trod at hx
          rw [hu] at hx
          split at hx <;> simp_all
          rename_i b1 heq
          subst heq
          refine ⟨b1, rfl, ?_⟩
          simp only [Lit.wf, decide_eq_true_eq] at *
          show b1 < 18446744073709551616
          omega
      · cases h
    · rename_i e hu
      split at h
      · rename_i a
        simp only [Bool.and_eq_true, beq_iff_eq, decide_eq_true_eq] at h
        obtain ⟨⟨hsz, hpos⟩, hl⟩ := h
        rcases DataW.trod_slice hu hx with ⟨rfl, -⟩ | ⟨ad, len, cap, elems, rest, m, rfl, rfl, -, -, hlc, hcap, hlen, hel, -, -⟩
        · exact ⟨([] : List a.T), ⟨nm0, rfl, rfl, Nat.le_refl _, .inl rfl⟩, Nat.zero_le _, by simp⟩
        · have key : ∀ i, i < len → ∃ y : a.T, (ad.add (i * a.sz)).spot = none ∧ ∃ arr ty fz, w.heap[ad.block]? = some (.cells arr ty fz) ∧ Rp (fun b => b < w.heap.size) w a y (cellsAt arr (ad.off + i * a.sz) a.sz) ∧ Wf a y := by
            intro i hi
            have he := hel i hi
            rw [List.getElem?_eq_getElem (by omega), Option.bind_eq_some_iff] at he
            obtain ⟨l, h1, h2⟩ := he
            rw [hsz] at h1
            obtain ⟨h0, arr, ty, fz, h3, h4, h5⟩ := cellsAt_of_cells? h1 hpos
            obtain ⟨y, h6, h7⟩ := ih e a hl m l _ h2
            refine ⟨y, h0, arr, ty, fz, ?_, ?_, h7⟩
            · have : (ad.add (i * a.sz)).block = ad.block := by unfold Addr.add; split <;> rfl
              rw [this] at h3; exact h3
            · have : (ad.add (i * a.sz)).off = ad.off + i * a.sz := by
                unfold Addr.add; split
                · rename_i h0; simp [h0]
                · rfl
              rw [this] at h4; rw [← h4]; exact h6
          by_cases hl0 : len = 0
          · subst hl0
            refine ⟨([] : List a.T), ⟨⟨0, 0, true, 0, cap, some ad⟩, rfl, rfl, hlc, .inl rfl⟩, Nat.zero_le _, by simp⟩
          · obtain ⟨y0, hspot, arr, ty, fz, hb, -, -⟩ := key 0 (by omega)
            have hspot : ad.spot = none := by simpa [Addr.add] using hspot
            have key2 : ∀ i, i < len → ∃ y : a.T, Rp (fun b => b < w.heap.size) w a y (cellsAt arr (ad.off + i * a.sz) a.sz) ∧ Wf a y := by
              intro i hi
              obtain ⟨y, -, arr', ty', fz', hb', h1, h2⟩ := key i hi
              rw [hb] at hb'
              simp only [Option.some.injEq, Obj.cells.injEq] at hb'
              obtain ⟨rfl, -, -⟩ := hb'
              exact ⟨y, h1, h2⟩
            have hall : ∃ ys : List a.T, ys.length = len ∧ ∀ i y, ys[i]? = some y → Rp (fun b => b < w.heap.size) w a y (cellsAt arr (ad.off + i * a.sz) a.sz) ∧ Wf a y := by
              clear hel hlen hx hlc hcap hl0 key
              induction len with
              | zero => exact ⟨[], rfl, by simp⟩
              | succ len ihl =>
                obtain ⟨ys, h1, h2⟩ := ihl (fun i hi => key2 i (by omega))
                obtain ⟨y, h3, h4⟩ := key2 len (by omega)
                refine ⟨ys ++ [y], by simp [h1], ?_⟩
                intro i z hz
                by_cases hi : i < ys.length
                · rw [List.getElem?_append_left hi] at hz; exact h2 i z hz
                · rw [List.getElem?_append_right (by omega)] at hz
                  have : i = len := by
                    have := (List.getElem?_eq_some_iff.1 hz).1
                    simp at this; omega
                  subst this
                  rw [h1] at hz
                  simp at hz
                  subst hz
                  exact ⟨h3, h4⟩
            obtain ⟨ys, h1, h2⟩ := hall
            have hblt : ad.block < w.heap.size := by
              rcases Nat.lt_or_ge ad.block w.heap.size with h | h
              · exact h
              · rw [Array.getElem?_eq_none h] at hb; cases hb
            refine ⟨ys, ⟨⟨ad.block, ad.off, false, len, cap, none⟩, ?_, h1.symm, hlc, .inr ⟨rfl, hblt, arr, ty, fz, hb, fun i y hy => (h2 i y hy).1⟩⟩, by rw [h1]; omega, ?_⟩
            · simp [Nm.ad]
              cases ad; simp_all
            · intro y hy
              obtain ⟨i, hi⟩ := List.getElem?_of_mem hy
              exact (h2 i y hi).2
      · cases h
    · rename_i fs hu
      simp only [Bool.and_eq_true, beq_iff_eq] at h
      obtain ⟨hsz, hl⟩ := h
      obtain ⟨xs, m, rfl, -, hlen, hxs, hel⟩ := DataW.trod_struct hu hx
      have hfield : ∀ f ∈ fs.toList, ∃ z, DataW.trod enc P w 0 (fun _ => true) held m f.type ((cs.drop f.offset).take (P.cellsOf f.type)) = some z := by
        intro f hf
        obtain ⟨i, hi⟩ := List.getElem?_of_mem hf
        have := hel i f (by simpa using hi)
        have hi2 : i < xs.length := by
          have := (List.getElem?_eq_some_iff.1 hi).1
          rw [hxs]; simpa using this
        rw [List.getElem?_eq_getElem hi2] at this
        exact ⟨_, this⟩
      have go : ∀ (l : List Field) (T : Ty) (off : Nat), laidL P (laid P n) l T off = true → (∀ f ∈ l, ∃ z, DataW.trod enc P w 0 (fun _ => true) held m f.type ((cs.drop f.offset).take (P.cellsOf f.type)) = some z) →
          ∃ y : T.T, Rp (fun b => b < w.heap.size) w T y ((cs.drop off).take T.sz) ∧ Wf T y := by
        intro l
        induction l with
        | nil => intro T off h; simp [laidL] at h
        | cons f r ihr =>
          intro T off h hf
          cases r with
          | nil =>
            simp only [laidL, Bool.and_eq_true, beq_iff_eq] at h
            obtain ⟨⟨rfl, h2⟩, h3⟩ := h
            obtain ⟨z, hz⟩ := hf f (by simp)
            rw [h2] at hz
            exact ih _ _ h3 _ _ _ hz
          | cons g r =>
            cases T with
            | pair a b =>
              simp only [laidL, Bool.and_eq_true, beq_iff_eq] at h
              obtain ⟨⟨⟨rfl, h2⟩, h3⟩, h4⟩ := h
              obtain ⟨z, hz⟩ := hf f (by simp)
              rw [h2] at hz
              obtain ⟨y, hy, wy⟩ := ih _ _ h3 _ _ _ hz
              obtain ⟨y2, hy2, wy2⟩ := ihr b (f.offset + a.sz) h4 (fun q hq => hf q (by simp [hq]))
              refine ⟨(y, y2), ⟨_, _, ?_, hy, hy2⟩, wy, wy2⟩
              rw [Ty.sz, List.take_add, List.drop_drop]
            | _ => simp [laidL] at h
      obtain ⟨y, hy, wy⟩ := go fs.toList T 0 hl hfield
      refine ⟨y, ?_, wy⟩
      rw [List.drop_zero, List.take_of_length_le (by omega)] at hy
      exact hy
    · cases h
end

/-! A law's arguments, in order. -/
structure Args (w : World) (ps : List CT) (x : HT ps) (ms : Nat → Nm) (vals : List Value) : Prop where
  all : ∀ (TB : Tb) (c : Cfg TB), PS c (fun b => b < w.heap.size) w ps x ms
  own : ownsP ps x ms = []
  den : denL (envOf ms) (outSVs ps x 0) = vals

theorem Args.nil (w : World) : Args w [] () (fun _ => nm0) [] := ⟨fun _ _ => trivial, rfl, rfl⟩

theorem Args.cons {w : World} {r : List CT} {x : HT r} {ms : Nat → Nm} {vals : List Value} (h : Args w r x ms vals) {t : Ty} {ag : Bool} {v : Value} {cs : List Value} (hv : (ag = true ∧ v = .agg cs.toArray) ∨ (ag = false ∧ cs = [v])) (y : t.T) (hy : Rp (fun b => b < w.heap.size) w t y cs) :
    ∃ ms', Args w (⟨t, ag, false, false⟩ :: r) (HT.mk ⟨t, ag, false, false⟩ r y x) ms' (v :: vals) := by
  obtain ⟨m, e, hs⟩ := hy.out
  let ms' : Nat → Nm := fun k => if k < t.nsl then m k else ms (k - t.nsl)
  have hcnt : (CT.mk t ag false false).cnt = t.nsl := by simp [CT.cnt, CT.pn]
  have hm1 : ∀ k, k < t.nsl → ms' k = m k := fun k hk => if_pos hk
  have hm2 : (fun k => ms' (t.nsl + k)) = ms := by
    funext k
    show (if t.nsl + k < t.nsl then _ else ms (t.nsl + k - t.nsl)) = _
    rw [if_neg (by omega)]
    congr 1; omega
  refine ⟨ms', fun TB c => ⟨⟨fun j e he => ?_, fun h => by cases h⟩, ?_⟩, ?_, ?_⟩
  · rw [HT.hd_mk] at he
    have hj : j < t.nsl := by
      have := (List.getElem?_eq_some_iff.1 he).1
      rwa [ents_length] at this
    have hE := hs j e he
    show EntM c _ w (ms' (0 + j)) e
    rw [Nat.zero_add, hm1 j hj]
    cases e with
    | shr t xs => exact hE
    | dead => trivial
    | _ => exact hE.elim
  · rw [HT.tl_mk, hcnt, hm2]; exact h.all TB c
  · rw [ownsP, HT.tl_mk, hcnt, hm2, h.own, ownsC, HT.hd_mk]
    rw [ownsE_shr]; rfl
  · have hd : denL (envOf ms') (unp t y 0) = cs := by
      rw [unp_den, e]
      exact enc_congr _ _ fun k hk => by rw [Nat.zero_add]; exact hm1 k hk
    simp only [outSVs, denL, HT.hd_mk, HT.tl_mk, List.cons.injEq]
    refine ⟨?_, ?_⟩
    · unfold outSV
      rcases hv with ⟨rfl, rfl⟩ | ⟨rfl, rfl⟩
      · simp only [SV.den, hd]
      · simp only
        cases hu : unp t y 0 with
        | nil => rw [hu] at hd; simp [denL] at hd
        | cons q l => rw [hu] at hd; simp only [denL, List.cons.injEq] at hd; exact hd.1
    · rw [hcnt, Nat.zero_add, ← h.den]
      refine outSVs_den _ _ fun k hk => ?_
      show ms' (t.nsl + k) = ms (0 + k)
      rw [congrFun hm2 k, Nat.zero_add]

/-- A law: true, and nothing that was there has turned. -/
theorem law_args {P : Program} {f : FuncId} {fi : FnI} (hc : CallsV P TB f fi) {vals : Array Value} {w : World} (hT : TabW TB w) {x : HT fi.ps} {ms : Nat → Nm} {r : HT (fi.rs ++ fi.os)}
    (ha : Args w fi.ps x ms vals.toList) (hr : fi.F x = some r) (ht : ∀ ms, (retSV (outSVs fi.rs (HT.left fi.rs fi.os r) 0)).den (envOf ms) = .bool true) (hsh : fi.sh = [] := by rfl) :
    Calls P f vals w (fun e w' => e = .returned (.bool true) ∧ Below w.heap.size w w') := by
  have h := hc.2 x r hr w (fun b => b < w.heap.size) ms (fun _ h => h) (ha.all _ _) (by rw [ha.own]; exact List.nodup_nil) (fun q hq => ⟨⟨(hT q hq).1, by rw [ha.own]; exact List.not_mem_nil⟩, (hT q hq).2⟩)
  rw [hsh] at h
  replace h : Calls P f (denL (envOf ms) (outSVs fi.ps x 0)).toArray w _ := h
  rw [ha.den] at h
  have e : vals.toList.toArray = vals := by simp
  rw [e] at h
  refine h.mono ?_
  rintro e w' ⟨G', ms', rfl, hrest, hs, hold, -⟩
  refine ⟨by rw [ht], ⟨hrest.os, hrest.tape, hrest.output, hs, fun b hb => hold b hb ?_⟩⟩
  rw [ha.own]
  exact List.not_mem_nil

theorem plainForm {P : Program} {W : World} {r : Reach} {base : Nat} {t : TypeId} {v : Value} (ha : isAggT P t = false) (h : Value.okWide P W r base t v) : v.cells.toList = [v] := by
  unfold Value.okWide at h
  unfold isAggT at ha
  split at h
  · simp_all
  · simp_all
  · unfold Cell.okWide Cell.ok at h
    cases v <;> simp_all [Value.cells]
theorem aggForm {P : Program} {W : World} {r : Reach} {base : Nat} {t : TypeId} {v : Value} (ha : isAggT P t = true) (h : Value.okWide P W r base t v) : v = .agg v.cells.toList.toArray := by
  unfold Value.okWide at h
  unfold isAggT at ha
  split at h
  · obtain ⟨cs, rfl, -⟩ := h; simp [Value.cells]
  · obtain ⟨cs, rfl, -⟩ := h; simp [Value.cells]
  · split at ha <;> simp_all
theorem handed {H : Type} {enc : TypeId × Value → H} {P : Program} {W : World} {r : Reach} {base : Nat} {held : Bool} {t : TypeId} {v : Value} {d : DataW H} {ps : List MemPlace} (n : Nat) (T : Ty) (hl : laid P n t T = true)
    (hval : Value.okWide P W r base t v) (h : DataW.Trod enc P W 0 (fun _ => true) held t v d ps) : ∃ y : T.T, Rp (fun b => b < W.heap.size) W T y v.cells.toList ∧ Wf T y := by
  obtain ⟨fuel, h⟩ := h
  exact rp_of_trod n t T hl fuel _ _ h

end Go.V3
