/-
  What three functions of the library answer: decimal numerals, their values, and strings that are joined. The numbers were laid by the kit's program for this seat.
-/
import Derived.Shelf.Strings.Builder1
import Derived.Shelf.Strings.Builder2
import Derived.Shelf.Strings.OnBuilder
import Derived.Shelf.Strconv.Atoi
import Derived.Shelf.Strconv.Itoa0
import Derived.Shelf.Strconv.Itoa1
import Derived.Shelf.LaysM
import Derived.Shelf.Strconv.Itoa2
import Derived.Shelf.Strconv.Itoa3
import Derived.Lib.AppendIntMem
import Derived.Test.YtmcahbbelnjhiaaDoorProg
import Derived.Test.YtmcahbbelnjhiaaDoorSpW
set_option linter.unusedVariables false
set_option maxRecDepth 100000
namespace Go.Proofs
open Go.Shelf
def Tryd.lays156_ren : Go.Shelf.Ren := ⟨fun | 156 => 22 | 165 => 36 | 166 => 37 | 169 => 38 | 240 => 48 | 241 => 49 | 276 => 57 | 277 => 58 | n => n, fun | 31 => 37 | 9 => 9 | 3 => 3 | 4 => 4 | 0 => 0 | 20 => 20 | 72 => 77 | 76 => 81 | 70 => 75 | 37 => 36 | 75 => 80 | 127 => 94 | 164 => 103 | 5 => 5 | 80 => 83 | n => n, fun | n => n⟩
theorem Tryd.lays156 : Go.Proofs.Lays.n156 Tryd.prog Tryd.lays156_ren := {
  mixed := by kernel_rfl
  f156 := Tryd.func22.trans (congrArg some (by kernel_rfl))
  f165 := Tryd.func36.trans (congrArg some (by kernel_rfl))
  f166 := Tryd.func37.trans (congrArg some (by kernel_rfl))
  f169 := Tryd.func38.trans (congrArg some (by kernel_rfl))
  f240 := Tryd.func48.trans (congrArg some (by kernel_rfl))
  f241 := Tryd.func49.trans (congrArg some (by kernel_rfl))
  f276 := Tryd.func57.trans (congrArg some (by kernel_rfl))
  f277 := Tryd.func58.trans (congrArg some (by kernel_rfl))
  t0 := Tryd.underlying0
  a0 := Tryd.isAgg0
  z0 := Tryd.sizeOf0
  v0 := Tryd.zeroValue0
  t3 := Tryd.underlying3
  a3 := Tryd.isAgg3
  z3 := Tryd.sizeOf3
  v3 := Tryd.zeroValue3
  t4 := Tryd.underlying4
  a4 := Tryd.isAgg4
  z4 := Tryd.sizeOf4
  v4 := Tryd.zeroValue4
  t9 := Tryd.underlying9
  a9 := Tryd.isAgg9
  z9 := Tryd.sizeOf9
  v9 := Tryd.zeroValue9
  t20 := Tryd.underlying20
  a20 := Tryd.isAgg20
  z20 := Tryd.sizeOf20
  v20 := Tryd.zeroValue20
  t31 := Tryd.underlying37
  a31 := Tryd.isAgg37
  z31 := Tryd.sizeOf37
  v31 := Tryd.zeroValue37
  t37 := Tryd.underlying36
  a37 := Tryd.isAgg36
  z37 := Tryd.sizeOf36
  v37 := Tryd.zeroValue36
  t70 := Tryd.underlying75
  a70 := Tryd.isAgg75
  z70 := Tryd.sizeOf75
  v70 := Tryd.zeroValue75
  t72 := Tryd.underlying77
  a72 := Tryd.isAgg77
  z72 := Tryd.sizeOf77
  v72 := Tryd.zeroValue77
  t75 := Tryd.underlying80
  a75 := Tryd.isAgg80
  z75 := Tryd.sizeOf80
  v75 := Tryd.zeroValue80
  t76 := Tryd.underlying81
  a76 := Tryd.isAgg81
  z76 := Tryd.sizeOf81
  v76 := Tryd.zeroValue81
  t127 := Tryd.underlying94
  a127 := Tryd.isAgg94
  z127 := Tryd.sizeOf94
  v127 := Tryd.zeroValue94
  t164 := Tryd.underlying103
  a164 := Tryd.isAgg103
  z164 := Tryd.sizeOf103
  v164 := Tryd.zeroValue103 }
theorem Tryd.Builder_Extra_156 : Builder.Extra Tryd.prog Tryd.lays156_ren := {
  sizeBuilder := by kernel_rfl
  liesBuilder := by kernel_rfl
  t5 := Tryd.underlying5
  a5 := Tryd.isAgg5
  z5 := Tryd.sizeOf5
  v5 := Tryd.zeroValue5
  infoByte := by kernel_rfl
  cellsByte := by kernel_rfl
  sizeByte := by kernel_rfl
  neB5 := by decide }
open Go.RowKit in
theorem Tryd.strings_Join_none (a : Option Addr) (c : Nat) (sep : ByteArray) (w : World) :
    Calls Tryd.prog 22 #[.slice a 0 c, .string sep] w fun e w' => e = .returned (.string ⟨#[]⟩) ∧ w' = w := Any.strings_Join_none Tryd.lays156 Tryd.Builder_Extra_156 a c sep w
open Go.RowKit in
theorem Tryd.strings_Join (bk o c : Nat) (xs : List ByteArray) (sep : ByteArray) (w : World) (hcells : ∀ (j : Nat) x, xs[j]? = some x → w.cell? ⟨bk, o + j, none⟩ = some (.string x)) (hbk : bk < w.heap.size) (hN : xs.length ≤ 140737488355328) (hcap : xs.length ≤ c) (hlen : (Lib.join (xs.map (·.data.toList)) sep.data.toList).length ≤ 140737488355328) :
    Calls Tryd.prog 22 #[.slice (some ⟨bk, o, none⟩) xs.length c, .string sep] w fun e w' => e = .returned (.string ⟨(Lib.join (xs.map (·.data.toList)) sep.data.toList).toArray⟩) ∧ Below w.heap.size w w' := Any.strings_Join Tryd.lays156 Tryd.Builder_Extra_156 bk o c xs sep w hcells hbk hN hcap hlen
def Tryd.lays172_ren : Go.Shelf.Ren := ⟨fun | 172 => 51 | 244 => 60 | 245 => 61 | 247 => 67 | 279 => 68 | 280 => 69 | 281 => 70 | 282 => 71 | 287 => 74 | 316 => 75 | 171 => 21 | 205 => 76 | 321 => 77 | 322 => 78 | 243 => 35 | 246 => 47 | 283 => 53 | 284 => 54 | 285 => 55 | 286 => 56 | 129 => 63 | 317 => 62 | 318 => 64 | 319 => 65 | 320 => 66 | 337 => 72 | 338 => 73 | n => n, fun | 9 => 9 | 3 => 3 | 75 => 80 | 76 => 81 | 4 => 4 | 5 => 5 | 167 => 113 | 37 => 36 | 0 => 0 | 85 => 114 | 2 => 2 | 168 => 116 | 53 => 69 | 175 => 120 | 46 => 111 | 210 => 124 | 127 => 94 | 145 => 131 | 143 => 129 | 21 => 21 | 171 => 98 | 173 => 101 | 212 => 108 | 51 => 109 | 20 => 20 | 213 => 110 | 232 => 126 | 233 => 127 | 80 => 83 | n => n, fun | 15 => 3 | 16 => 4 | 17 => 1 | 18 => 5 | 19 => 6 | n => n⟩
theorem Tryd.lays172 : Go.Proofs.Lays.n172 Tryd.prog Tryd.lays172_ren := {
  mixed := by kernel_rfl
  f129 := Tryd.func63.trans (congrArg some (by kernel_rfl))
  f171 := Tryd.func21.trans (congrArg some (by kernel_rfl))
  f172 := Tryd.func51.trans (congrArg some (by kernel_rfl))
  f205 := Tryd.func76.trans (congrArg some (by kernel_rfl))
  f243 := Tryd.func35.trans (congrArg some (by kernel_rfl))
  f244 := Tryd.func60.trans (congrArg some (by kernel_rfl))
  f245 := Tryd.func61.trans (congrArg some (by kernel_rfl))
  f246 := Tryd.func47.trans (congrArg some (by kernel_rfl))
  f247 := Tryd.func67.trans (congrArg some (by kernel_rfl))
  f279 := Tryd.func68.trans (congrArg some (by kernel_rfl))
  f280 := Tryd.func69.trans (congrArg some (by kernel_rfl))
  f281 := Tryd.func70.trans (congrArg some (by kernel_rfl))
  f282 := Tryd.func71.trans (congrArg some (by kernel_rfl))
  f283 := Tryd.func53.trans (congrArg some (by kernel_rfl))
  f284 := Tryd.func54.trans (congrArg some (by kernel_rfl))
  f285 := Tryd.func55.trans (congrArg some (by kernel_rfl))
  f286 := Tryd.func56.trans (congrArg some (by kernel_rfl))
  f287 := Tryd.func74.trans (congrArg some (by kernel_rfl))
  f316 := Tryd.func75.trans (congrArg some (by kernel_rfl))
  f317 := Tryd.func62.trans (congrArg some (by kernel_rfl))
  f318 := Tryd.func64.trans (congrArg some (by kernel_rfl))
  f319 := Tryd.func65.trans (congrArg some (by kernel_rfl))
  f320 := Tryd.func66.trans (congrArg some (by kernel_rfl))
  f321 := Tryd.func77.trans (congrArg some (by kernel_rfl))
  f322 := Tryd.func78.trans (congrArg some (by kernel_rfl))
  f337 := Tryd.func72.trans (congrArg some (by kernel_rfl))
  f338 := Tryd.func73.trans (congrArg some (by kernel_rfl))
  t0 := Tryd.underlying0
  a0 := Tryd.isAgg0
  z0 := Tryd.sizeOf0
  v0 := Tryd.zeroValue0
  t2 := Tryd.underlying2
  a2 := Tryd.isAgg2
  z2 := Tryd.sizeOf2
  v2 := Tryd.zeroValue2
  t3 := Tryd.underlying3
  a3 := Tryd.isAgg3
  z3 := Tryd.sizeOf3
  v3 := Tryd.zeroValue3
  t4 := Tryd.underlying4
  a4 := Tryd.isAgg4
  z4 := Tryd.sizeOf4
  v4 := Tryd.zeroValue4
  t5 := Tryd.underlying5
  a5 := Tryd.isAgg5
  z5 := Tryd.sizeOf5
  v5 := Tryd.zeroValue5
  t9 := Tryd.underlying9
  a9 := Tryd.isAgg9
  z9 := Tryd.sizeOf9
  v9 := Tryd.zeroValue9
  t20 := Tryd.underlying20
  a20 := Tryd.isAgg20
  z20 := Tryd.sizeOf20
  v20 := Tryd.zeroValue20
  t21 := Tryd.underlying21
  a21 := Tryd.isAgg21
  z21 := Tryd.sizeOf21
  v21 := Tryd.zeroValue21
  t37 := Tryd.underlying36
  a37 := Tryd.isAgg36
  z37 := Tryd.sizeOf36
  v37 := Tryd.zeroValue36
  t46 := Tryd.underlying111
  a46 := Tryd.isAgg111
  z46 := Tryd.sizeOf111
  v46 := Tryd.zeroValue111
  t51 := Tryd.underlying109
  a51 := Tryd.isAgg109
  z51 := Tryd.sizeOf109
  v51 := Tryd.zeroValue109
  t53 := Tryd.underlying69
  a53 := Tryd.isAgg69
  z53 := Tryd.sizeOf69
  v53 := Tryd.zeroValue69
  t75 := Tryd.underlying80
  a75 := Tryd.isAgg80
  z75 := Tryd.sizeOf80
  v75 := Tryd.zeroValue80
  t76 := Tryd.underlying81
  a76 := Tryd.isAgg81
  z76 := Tryd.sizeOf81
  v76 := Tryd.zeroValue81
  t85 := Tryd.underlying114
  a85 := Tryd.isAgg114
  z85 := Tryd.sizeOf114
  v85 := Tryd.zeroValue114
  t127 := Tryd.underlying94
  a127 := Tryd.isAgg94
  z127 := Tryd.sizeOf94
  v127 := Tryd.zeroValue94
  t143 := Tryd.underlying129
  a143 := Tryd.isAgg129
  z143 := Tryd.sizeOf129
  v143 := Tryd.zeroValue129
  t145 := Tryd.underlying131
  a145 := Tryd.isAgg131
  z145 := Tryd.sizeOf131
  v145 := Tryd.zeroValue131
  t167 := Tryd.underlying113
  a167 := Tryd.isAgg113
  z167 := Tryd.sizeOf113
  v167 := Tryd.zeroValue113
  t168 := Tryd.underlying116
  a168 := Tryd.isAgg116
  z168 := Tryd.sizeOf116
  v168 := Tryd.zeroValue116
  t171 := Tryd.underlying98
  a171 := Tryd.isAgg98
  z171 := Tryd.sizeOf98
  v171 := Tryd.zeroValue98
  t173 := Tryd.underlying101
  a173 := Tryd.isAgg101
  z173 := Tryd.sizeOf101
  v173 := Tryd.zeroValue101
  t175 := Tryd.underlying120
  a175 := Tryd.isAgg120
  z175 := Tryd.sizeOf120
  v175 := Tryd.zeroValue120
  t210 := Tryd.underlying124
  a210 := Tryd.isAgg124
  z210 := Tryd.sizeOf124
  v210 := Tryd.zeroValue124
  t212 := Tryd.underlying108
  a212 := Tryd.isAgg108
  z212 := Tryd.sizeOf108
  v212 := Tryd.zeroValue108
  t213 := Tryd.underlying110
  a213 := Tryd.isAgg110
  z213 := Tryd.sizeOf110
  t232 := Tryd.underlying126
  a232 := Tryd.isAgg126
  z232 := Tryd.sizeOf126
  v232 := Tryd.zeroValue126
  t233 := Tryd.underlying127
  a233 := Tryd.isAgg127
  z233 := Tryd.sizeOf127
  v233 := Tryd.zeroValue127
  g15 := by kernel_rfl
  g16 := by kernel_rfl
  g17 := by kernel_rfl
  g18 := by kernel_rfl
  g19 := by kernel_rfl }
open Go.RowKit in
theorem Tryd.strconv_Atoi (s : ByteArray) (n : Int) (hl : s.size ≤ 18) (h : Lib.atoi s.data.toList = some n) (w : World) :
    Calls Tryd.prog 51 #[.string s] w fun e w' => e = .returned (.tuple #[.int .i64 n, .nilIface]) ∧ ∃ t, w' = Lib.bytesWorld w 5 t := Any.strconv_Atoi Tryd.lays172 s n hl h w
def Tryd.laysM171_ren : Go.Shelf.Ren := ⟨fun | 171 => 21 | 243 => 35 | 246 => 47 | 283 => 53 | 284 => 54 | 285 => 55 | 286 => 56 | 129 => 63 | 317 => 62 | 318 => 64 | 319 => 65 | 320 => 66 | 337 => 72 | 338 => 73 | n => n, fun | 3 => 3 | 9 => 9 | 2 => 2 | 4 => 4 | 171 => 98 | 0 => 0 | 53 => 69 | 37 => 36 | 5 => 5 | 173 => 101 | 212 => 108 | 51 => 109 | 20 => 20 | 213 => 110 | 46 => 111 | 232 => 126 | 233 => 127 | n => n, fun | 17 => 1 | 18 => 5 | 19 => 6 | n => n⟩
theorem Tryd.laysM171 : Go.Proofs.LaysM.n171 Tryd.prog Tryd.laysM171_ren := {
  mixed := by kernel_rfl
  f129 := Tryd.func63.trans (congrArg some (by kernel_rfl))
  f171 := Tryd.func21.trans (congrArg some (by kernel_rfl))
  f243 := Tryd.func35.trans (congrArg some (by kernel_rfl))
  f246 := Tryd.func47.trans (congrArg some (by kernel_rfl))
  f283 := Tryd.func53.trans (congrArg some (by kernel_rfl))
  f284 := Tryd.func54.trans (congrArg some (by kernel_rfl))
  f285 := Tryd.func55.trans (congrArg some (by kernel_rfl))
  f286 := Tryd.func56.trans (congrArg some (by kernel_rfl))
  f317 := Tryd.func62.trans (congrArg some (by kernel_rfl))
  f318 := Tryd.func64.trans (congrArg some (by kernel_rfl))
  f319 := Tryd.func65.trans (congrArg some (by kernel_rfl))
  f320 := Tryd.func66.trans (congrArg some (by kernel_rfl))
  f337 := Tryd.func72.trans (congrArg some (by kernel_rfl))
  f338 := Tryd.func73.trans (congrArg some (by kernel_rfl))
  t0 := Tryd.underlying0
  a0 := Tryd.isAgg0
  z0 := Tryd.sizeOf0
  v0 := Tryd.zeroValue0
  t2 := Tryd.underlying2
  a2 := Tryd.isAgg2
  z2 := Tryd.sizeOf2
  v2 := Tryd.zeroValue2
  t3 := Tryd.underlying3
  a3 := Tryd.isAgg3
  z3 := Tryd.sizeOf3
  v3 := Tryd.zeroValue3
  t4 := Tryd.underlying4
  a4 := Tryd.isAgg4
  z4 := Tryd.sizeOf4
  v4 := Tryd.zeroValue4
  t5 := Tryd.underlying5
  a5 := Tryd.isAgg5
  z5 := Tryd.sizeOf5
  v5 := Tryd.zeroValue5
  t9 := Tryd.underlying9
  a9 := Tryd.isAgg9
  z9 := Tryd.sizeOf9
  v9 := Tryd.zeroValue9
  t20 := Tryd.underlying20
  a20 := Tryd.isAgg20
  z20 := Tryd.sizeOf20
  v20 := Tryd.zeroValue20
  t37 := Tryd.underlying36
  a37 := Tryd.isAgg36
  z37 := Tryd.sizeOf36
  v37 := Tryd.zeroValue36
  t46 := Tryd.underlying111
  a46 := Tryd.isAgg111
  z46 := Tryd.sizeOf111
  v46 := Tryd.zeroValue111
  t51 := Tryd.underlying109
  a51 := Tryd.isAgg109
  z51 := Tryd.sizeOf109
  v51 := Tryd.zeroValue109
  t53 := Tryd.underlying69
  a53 := Tryd.isAgg69
  z53 := Tryd.sizeOf69
  v53 := Tryd.zeroValue69
  t171 := Tryd.underlying98
  a171 := Tryd.isAgg98
  z171 := Tryd.sizeOf98
  v171 := Tryd.zeroValue98
  t173 := Tryd.underlying101
  a173 := Tryd.isAgg101
  z173 := Tryd.sizeOf101
  v173 := Tryd.zeroValue101
  t212 := Tryd.underlying108
  a212 := Tryd.isAgg108
  z212 := Tryd.sizeOf108
  v212 := Tryd.zeroValue108
  t213 := Tryd.underlying110
  a213 := Tryd.isAgg110
  z213 := Tryd.sizeOf110
  t232 := Tryd.underlying126
  a232 := Tryd.isAgg126
  z232 := Tryd.sizeOf126
  v232 := Tryd.zeroValue126
  t233 := Tryd.underlying127
  a233 := Tryd.isAgg127
  z233 := Tryd.sizeOf127
  v233 := Tryd.zeroValue127
  g17 := by kernel_rfl
  g18 := by kernel_rfl
  g19 := by kernel_rfl
  i0 := by kernel_rfl
  i2 := by kernel_rfl
  i3 := by kernel_rfl
  i4 := by kernel_rfl
  i5 := by kernel_rfl
  i9 := by kernel_rfl
  i20 := by kernel_rfl
  i37 := by kernel_rfl
  i46 := by kernel_rfl
  i51 := by kernel_rfl
  i53 := by kernel_rfl
  i171 := by kernel_rfl
  i173 := by kernel_rfl
  i212 := by kernel_rfl
  i232 := by kernel_rfl
  i233 := by kernel_rfl
  m17 := by kernel_rfl
  m18 := by kernel_rfl
  m19 := by kernel_rfl }
open Go.RowKit Go.Sort Go.Lib in
theorem Tryd.strconv_Itoa (n : Int) (h0 : -9223372036854775808 ≤ n) (h1 : n ≤ 9223372036854775807) (w : World) (htab : Lib.TabIs Tryd.prog w "internal/strconv.uint64pow10" .u64 Lib.pow10Tab) :
    Calls Tryd.prog 21 #[.int .i64 n] w fun e w' => e = .returned (.string ⟨(Lib.itoa n).toArray⟩) ∧ ∃ k os, w' = grow (w.drewN k) os := Any.strconv_Itoa Tryd.laysM171 n h0 h1 w htab
end Go.Proofs

namespace Go.Proofs.YtmcahbbelnjhiaaDoor
open Go Go.V3

theorem bare_res {TB : Tb} (c : Cfg TB) (G : Nat → Prop) (w : World) (cs : List CT) (x : HT cs) (ms : Nat → Nm) (h : bare cs = true) : PS c G w cs x ms ∧ ownsP cs x ms = [] := bare_ps cs x ms h
/-- A contract of the library over values without memory, for this machinery. -/
theorem callsV_lib {P : Program} {TB : Tb} {f : FuncId} {fi : FnI} (hrun : CalleeRuns P f) (hos : fi.os = []) (hbk : fi.bk = []) (hb : bare (fi.rs ++ fi.os) = true)
    (h : ∀ (x : HT fi.ps) (r : HT (fi.rs ++ fi.os)), fi.F x = some r → ∀ (w : World) (G : Nat → Prop) (ms : Nat → Nm), PS (⟨w, fun b => b ∈ ownsP fi.ps x ms, G⟩ : Cfg TB) G w fi.ps x ms → (⟨w, fun b => b ∈ ownsP fi.ps x ms, G⟩ : Cfg TB).Tab → (∀ b, G b → b < w.heap.size) →
      Calls P f (denL (envOf ms) (foldA fi.sh (outSVs fi.ps x 0))).toArray w (fun e w' => (e = .returned ((retSV (outSVs fi.rs (HT.left fi.rs fi.os r) 0)).den (envOf ms))) ∧ V3.Rest w w' ∧ w.heap.size ≤ w'.heap.size ∧ ∀ b, b < w.heap.size → w'.heap[b]? = w.heap[b]?)) : CallsV P TB f fi := by
  refine ⟨hrun, fun x r hr w G ms hG hps hnd htab => (h x r hr w G ms hps htab hG).mono ?_⟩
  rintro e w' ⟨he, hrest, hs, hold⟩
  obtain ⟨p1, p2⟩ := bare_res (⟨w, fun b => b ∈ ownsP fi.ps x ms, G⟩ : Cfg TB) G w' (fi.rs ++ fi.os) r ms hb
  exact ⟨G, ms, he, hrest, hs, fun b hb _ => hold b hb, fun _ h => h, fun _ h => .inl h, fun b hb => Nat.lt_of_lt_of_le (hG b hb) hs, p1, by rw [p2]; exact List.nodup_nil, by rw [hos, hbk]; rfl⟩
theorem rest_below {w w' : World} (h : Go.RowKit.Below w.heap.size w w') : V3.Rest w w' ∧ w.heap.size ≤ w'.heap.size ∧ ∀ b, b < w.heap.size → w'.heap[b]? = w.heap[b]? :=
  ⟨⟨h.os, h.tape, h.output⟩, h.size, h.block⟩

/-- A decimal numeral. -/
def Fitoa (n : Int) : Option ByteArray := if 0 ≤ n ∧ n ≤ 1000 then some ⟨(Lib.itoa n).toArray⟩ else none
@[reducible] def iFitoa : FnI := { ps := [⟨.int .i64, false, false, false⟩], rs := [⟨.str, false, true, false⟩], os := [], bk := [], F := fun x => Fitoa x }
theorem okFitoa : CallsV Tryd.prog tabs 21 iFitoa := by
  refine callsV_lib (calleeRuns_of Tryd.func21 rfl (by kernel_rfl)) rfl rfl rfl fun x r hr w G ms hps htab hG => ?_
  have hr' : Fitoa x = some r := hr
  unfold Fitoa at hr'
  split at hr'
  rotate_left
  · cases hr'
  rename_i hx
  obtain rfl := Option.some.inj hr'
  have htabis : Lib.TabIs Tryd.prog w "internal/strconv.uint64pow10" .u64 Lib.pow10Tab := by
    obtain ⟨_, ty, fz, h2⟩ := htab (1, tab1) (by simp [tabs])
    unfold Lib.TabIs World.var?
    rw [show Tryd.prog.globalNamed "internal/strconv.uint64pow10" = some 1 by kernel_rfl]
    have h3 : w.heap[1]? = some (.cells tab1 ty fz) := h2
    simp only [Option.bind_some, h3]
    rfl
  refine (Tryd.strconv_Itoa x (by omega) (by omega) w htabis).mono ?_
  rintro e w' ⟨rfl, k, os, rfl⟩
  exact ⟨rfl, rest_below (Lib.below_grow _ w (Nat.le_refl _) k os)⟩
/-- A numeral's value. -/
def Fatoi (s : ByteArray) : Option (Int × Unit) := if s.size ≤ 18 then (Lib.atoi s.data.toList).map fun n => (n, ()) else none
@[reducible] def iFatoi : FnI := { ps := [⟨.str, false, false, false⟩], rs := [⟨.int .i64, false, true, false⟩, ⟨.nile, false, true, false⟩], os := [], bk := [], F := fun x => Fatoi x }
theorem okFatoi : CallsV Tryd.prog tabs 51 iFatoi := by
  refine callsV_lib (calleeRuns_of Tryd.func51 rfl (by kernel_rfl)) rfl rfl rfl fun x r hr w G ms hps htab hG => ?_
  have hr' : Fatoi x = some r := hr
  unfold Fatoi at hr'
  split at hr'
  rotate_left
  · cases hr'
  rename_i hx
  cases hn : Lib.atoi (ByteArray.data x).toList with
  | none => rw [hn] at hr'; cases hr'
  | some n =>
    rw [hn] at hr'
    obtain rfl := Option.some.inj hr'
    refine (Tryd.strconv_Atoi x n hx hn w).mono ?_
    rintro e w' ⟨rfl, t, rfl⟩
    exact ⟨rfl, ⟨rfl, rfl, rfl⟩, by rw [Lib.bytesWorld_size]; omega, fun b hb => Lib.bytesWorld_at_old w _ t b hb⟩
/-- Strings that are joined. -/
def Fjoin (xs : List ByteArray) (sep : ByteArray) : Option ByteArray := if xs.length ≤ 140737488355328 ∧ (Lib.join (xs.map (·.data.toList)) sep.data.toList).length ≤ 140737488355328 then some ⟨(Lib.join (xs.map (·.data.toList)) sep.data.toList).toArray⟩ else none
@[reducible] def iFjoin : FnI := { ps := [⟨.slice .str, false, false, false⟩, ⟨.str, false, false, false⟩], rs := [⟨.str, false, true, false⟩], os := [], bk := [], F := fun x => Fjoin x.1 x.2 }
theorem okFjoin : CallsV Tryd.prog tabs 22 iFjoin := by
  refine callsV_lib (calleeRuns_of Tryd.func22 rfl (by kernel_rfl)) rfl rfl rfl fun x r hr w G ms hps htab hG => ?_
  have hr' : Fjoin x.1 x.2 = some r := hr
  unfold Fjoin at hr'
  split at hr'
  rotate_left
  · cases hr'
  rename_i hx
  obtain rfl := Option.some.inj hr'
  obtain ⟨xs, sep⟩ := x
  have hs : Shr (Rp G w .str) 1 G w (ms 0) xs := hps.1.1 0 (.shr .str xs) rfl
  obtain ⟨h1, h2, h3⟩ := hs
  by_cases hxs : xs = []
  · subst hxs
    have hc : Calls Tryd.prog 22 #[.slice (ms 0).ad (ms 0).len (ms 0).cap, .string sep] w (fun e w' => e = .returned (.string ⟨#[]⟩) ∧ w' = w) := by
      have h0 : (ms 0).len = 0 := h1
      rw [h0]
      exact Tryd.strings_Join_none _ _ sep w
    refine hc.mono ?_
    rintro e w' ⟨rfl, rfl⟩
    exact ⟨rfl, .refl _, Nat.le_refl _, fun _ _ => rfl⟩
  · rcases h3 with h3 | ⟨hn, hg, arr, ty, fz, ha, hrow⟩
    · exact absurd h3 hxs
    have had : (ms 0).ad = some ⟨(ms 0).blk, (ms 0).off, none⟩ := by simp [Nm.ad, hn]
    have hcells : ∀ (j : Nat) y, xs[j]? = some y → w.cell? ⟨(ms 0).blk, (ms 0).off + j, none⟩ = some (.string y) := by
      intro j y hy
      have h4 : cellsAt arr ((ms 0).off + j * 1) 1 = [.string y] := hrow j y hy
      have h5 : (cellsAt arr ((ms 0).off + j * 1) 1)[0]? = some (.string y) := by rw [h4]; rfl
      rw [cellsAt_get, if_pos (by omega)] at h5
      rw [show (ms 0).off + j * 1 + 0 = (ms 0).off + j by omega] at h5
      simp only [World.cell?, ha]
      exact h5
    have hc : Calls Tryd.prog 22 #[.slice (ms 0).ad (ms 0).len (ms 0).cap, .string sep] w (fun e w' => e = .returned (.string ⟨(Lib.join (xs.map (·.data.toList)) sep.data.toList).toArray⟩) ∧ Go.RowKit.Below w.heap.size w w') := by
      have hcap : xs.length ≤ (ms 0).cap := by have : (ms 0).len = xs.length := h1; omega
      have h1' : (ms 0).len = xs.length := h1
      rw [had, h1']
      exact Tryd.strings_Join _ _ _ xs sep w hcells (hG _ hg) hx.1 hcap hx.2
    refine hc.mono ?_
    rintro e w' ⟨rfl, hb⟩
    exact ⟨rfl, rest_below hb⟩
end Go.Proofs.YtmcahbbelnjhiaaDoor
