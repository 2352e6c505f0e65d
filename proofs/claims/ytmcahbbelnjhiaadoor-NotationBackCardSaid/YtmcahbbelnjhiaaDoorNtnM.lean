/-
  What the laws of texts need: the example is read, texts are short.
-/
import Derived.Test.YtmcahbbelnjhiaaDoorNtnJ
set_option linter.unusedVariables false
set_option linter.unusedSimpArgs false
namespace Go.Proofs.YtmcahbbelnjhiaaDoor
open Go Go.V3

def EX : Cf := (⟨#[120, 120, 49, 48, 48]⟩, [(pc 25, 0, 1, 1), (pc 25, 0, 1, 2), (0, 0, 0, 2)], 8)
def exS : ByteArray := ⟨#[120, 120, 49, 48, 48, 32, 102, 117, 108, 108, 32, 56, 58, 32, 50, 53, 37, 47, 48, 47, 49, 62, 49, 44, 32, 50, 53, 37, 47, 48, 47, 49, 62, 50, 44, 32, 97, 108, 108, 47, 48, 47, 48, 62, 50]⟩
theorem ex_good : Good EX := good3 (nm_of (by decide)) (pc_vv (by decide) (by decide)) (pc_vv (by decide) (by decide)) (.inl rfl) (by decide) (by decide) (by rintro (⟨_, h⟩ | ⟨h, _⟩); omega; exact h rfl)
theorem ex_says : says (bl exS) = some EX := by rfl
theorem ex_parse : parse exS = (EX, 0) := by
  unfold parse
  rw [if_neg (by decide), ex_says]
  dsimp only
  rw [if_pos ex_good.chk]
theorem awake_ok : Fbeltwaylaw13_awake = some true := by
  unfold Fbeltwaylaw13_awake
  show Option.bind (Fnotation_Parse exS) _ = _
  rw [Parse_ok, ex_parse, Option.bind_some, pPrint_ok (c := EX) (by decide) ex_good.sh, prn_back ex_says ex_good.chk, Option.bind_some]
  rw [if_pos rfl, if_pos rfl]
  exact (if_pos rfl).trans rfl
theorem Same_refl {c : Cf} (hn : c.2.1.length ≤ 1000) (hs : Sh c) : Fbeltwayref12_Same c c = some true := by
  unfold Fbeltwayref12_Same
  rw [if_neg (by simp), if_neg (by simp), if_neg (by simp)]
  refine loopO_run c.2.1.length (fun k hk => ?_) ?_
  · have h1 := hs (k : Int) (by omega) (by omega)
    unfold ru at h1
    rw [if_pos (by omega), if_pos (by omega), if_pos (by omega), if_pos h1, if_pos h1, if_neg (by simp), if_neg (by simp), if_neg (by simp), if_neg (by simp), w64_id (by omega) (by omega)]
  · rw [if_neg (by omega)]
theorem parse_sh (s : ByteArray) : (parse s).1.2.1.length ≤ 1000 ∧ Sh (parse s).1 := by
  have hz : zc.2.1.length ≤ 1000 ∧ Sh zc := ⟨by decide, fun b h0 h1 => absurd h1 (by show ¬ b < 0; omega)⟩
  unfold parse
  split
  · exact hz
  rename_i h
  cases e : says (bl s) with
  | none => exact hz
  | some c =>
    dsimp only
    split
    · obtain ⟨_, _, _, h1, h2, _⟩ := says_ok (by rw [bl_len]; omega) e
      exact ⟨h1, sh_of fun x hx => (h2 x hx).1⟩
    · exact hz
theorem prn_size {c : Cf} : (prn c).1.size ≤ 1000 := by
  unfold prn
  split
  · rename_i hc
    have hg := good_of hc
    have h4 := hg.n
    cases e : ptx c.2.1 with
    | none => exact Nat.zero_le _
    | some ts =>
      dsimp only
      have hp : ∀ (rs : List Ru) (ts : List By), (∀ x ∈ rs, RuP x) → ptx rs = some ts → ts.length = rs.length ∧ ∀ t ∈ ts, t.length ≤ 200 := by
        intro rs
        induction rs with
        | nil => intro ts _ h; cases h; exact ⟨rfl, by simp⟩
        | cons x rs ih =>
          intro ts hok h
          rw [ptx] at h
          obtain ⟨p, hp, h⟩ := Option.bind_eq_some_iff.mp h
          obtain ⟨ts', ht, rfl⟩ := Option.map_eq_some_iff.mp h
          obtain ⟨g1, g2⟩ := ih ts' (fun y hy => hok y (.tail _ hy)) ht
          obtain ⟨p0, p1, _⟩ := tp_some hp
          refine ⟨by rw [List.length_cons, List.length_cons, g1], fun t ht => ?_⟩
          rcases List.mem_cons.mp ht with rfl | ht
          · exact rtx_len p0 p1 (hok x (.head _))
          · exact g2 t ht
      obtain ⟨g1, g2⟩ := hp _ _ (fun x hx => by
        obtain ⟨i, hi, rfl⟩ := List.getElem_of_mem hx
        have := good_rp hg hi
        rwa [gl_lt hi] at this) e
      have := jn_len ts g2
      have := head_size hg
      rw [size_mk, List.length_append]
      omega
  · exact Nat.zero_le _
end Go.Proofs.YtmcahbbelnjhiaaDoor
