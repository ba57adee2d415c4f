/- ReplayParts: the run, lifted to the model. -/
import Derived.Test.YthkfhpiamddhoaaGreatRp0
import Derived.Test.YthkfhpiamddhoaaGreatRp1
import Derived.Test.YthkfhpiamddhoaaGreatAmClaim
import Derived.Test.YthkfhpiamddhoaaGreatRows
import Derived.WalkKit
import Derived.ProofKit
import Derived.OpenShut
set_option autoImplicit false
set_option maxRecDepth 100000
set_option linter.unusedVariables false
namespace Go.Proofs.YthkfhpiamddhoaaGreat
open Go.AM Go.ChangeShapes Go.WideShapes Go.ChangeAt Go.RowKit

theorem awake_ct : CT (kall env 61) 4 spTrue := by
  intro β c r h args s k kp x hx
  unfold spTrue at hx
  split at hx
  · have hb := awake_body
    unfold isT at hb
    split at hb
    · rename_i s' hq
      exact .inl ⟨_, _, call_pure (d' := .v (.bool true)) rfl rfl hq rfl rfl, hx⟩
    · simp at hb
  · simp at hx

theorem own : ownKnob Tryz.prog.godebug = none := by kernel_rfl
def lv39 : List LeafK := [.int .i64, .slice 5, .int .i64, .string, .bool, .int .u8, .int .u8, .int .u8, .int .u8, .int .u8, .int .u8, .int .u8, .int .u8, .int .u8, .int .u8, .int .u8, .int .u8, .int .u8, .int .u8, .int .u8, .int .u8, .int .i64, .int .u8, .int .u8, .int .u8, .int .u8, .int .u8, .int .u8, .float .f64, .bool, .string, .float .f64, .string, .bool, .int .i64, .int .i64, .bool, .int .i64, .string, .slice 5, .int .i64, .int .u32]
theorem leaves39 : leavesOf env leafDepth 39 = some lv39 := by kernel_rfl
theorem leaves39ok : allB (okLeaf env 2) lv39 = true := by kernel_rfl
theorem types : TypesOk Tryz.prog := ⟨kids_rows (by kernel_rfl) (by kernel_rfl), slices_full_of _ (by kernel_rfl)⟩

theorem len_slice {d : D} (h : leafOk env 2 (.slice 5) d) : ∃ n, lenD env 22 d = some (.v (.int .i64 n)) := by
  rcases h with rfl | ⟨rows, c, rfl, _⟩
  · exact ⟨_, rfl⟩
  · exact ⟨_, rfl⟩

theorem run_two {ds es : List D} (h : All2 (leafOk env 2) lv39 ds)
    (h' : All2 (leafOk env 2) lv39 es)
    (hi : noIdsL ds = true) (hi' : noIdsL es = true) : (kall env 62).call 0 0 [] 3 [.agg ds, .agg es] .empty = some (.ret (.v (.bool true)), .empty) := by
  unfold lv39 at h h'
  obtain ⟨a0, as0, rfl, ah0, aA0⟩ := h.cons_inv
  obtain ⟨a1, as1, rfl, ah1, aA1⟩ := aA0.cons_inv
  obtain ⟨a2, as2, rfl, ah2, aA2⟩ := aA1.cons_inv
  obtain ⟨a3, as3, rfl, ah3, aA3⟩ := aA2.cons_inv
  obtain ⟨ax3, rfl, aw3⟩ := ah3
  obtain ⟨a4, as4, rfl, ah4, aA4⟩ := aA3.cons_inv
  obtain ⟨a5, as5, rfl, ah5, aA5⟩ := aA4.cons_inv
  obtain ⟨a6, as6, rfl, ah6, aA6⟩ := aA5.cons_inv
  obtain ⟨a7, as7, rfl, ah7, aA7⟩ := aA6.cons_inv
  obtain ⟨a8, as8, rfl, ah8, aA8⟩ := aA7.cons_inv
  obtain ⟨a9, as9, rfl, ah9, aA9⟩ := aA8.cons_inv
  obtain ⟨a10, as10, rfl, ah10, aA10⟩ := aA9.cons_inv
  obtain ⟨a11, as11, rfl, ah11, aA11⟩ := aA10.cons_inv
  obtain ⟨a12, as12, rfl, ah12, aA12⟩ := aA11.cons_inv
  obtain ⟨a13, as13, rfl, ah13, aA13⟩ := aA12.cons_inv
  obtain ⟨a14, as14, rfl, ah14, aA14⟩ := aA13.cons_inv
  obtain ⟨a15, as15, rfl, ah15, aA15⟩ := aA14.cons_inv
  obtain ⟨a16, as16, rfl, ah16, aA16⟩ := aA15.cons_inv
  obtain ⟨a17, as17, rfl, ah17, aA17⟩ := aA16.cons_inv
  obtain ⟨a18, as18, rfl, ah18, aA18⟩ := aA17.cons_inv
  obtain ⟨a19, as19, rfl, ah19, aA19⟩ := aA18.cons_inv
  obtain ⟨a20, as20, rfl, ah20, aA20⟩ := aA19.cons_inv
  obtain ⟨a21, as21, rfl, ah21, aA21⟩ := aA20.cons_inv
  obtain ⟨a22, as22, rfl, ah22, aA22⟩ := aA21.cons_inv
  obtain ⟨a23, as23, rfl, ah23, aA23⟩ := aA22.cons_inv
  obtain ⟨a24, as24, rfl, ah24, aA24⟩ := aA23.cons_inv
  obtain ⟨a25, as25, rfl, ah25, aA25⟩ := aA24.cons_inv
  obtain ⟨a26, as26, rfl, ah26, aA26⟩ := aA25.cons_inv
  obtain ⟨a27, as27, rfl, ah27, aA27⟩ := aA26.cons_inv
  obtain ⟨a28, as28, rfl, ah28, aA28⟩ := aA27.cons_inv
  obtain ⟨a29, as29, rfl, ah29, aA29⟩ := aA28.cons_inv
  obtain ⟨a30, as30, rfl, ah30, aA30⟩ := aA29.cons_inv
  obtain ⟨ax30, rfl, aw30⟩ := ah30
  obtain ⟨a31, as31, rfl, ah31, aA31⟩ := aA30.cons_inv
  obtain ⟨a32, as32, rfl, ah32, aA32⟩ := aA31.cons_inv
  obtain ⟨ax32, rfl, aw32⟩ := ah32
  obtain ⟨a33, as33, rfl, ah33, aA33⟩ := aA32.cons_inv
  obtain ⟨a34, as34, rfl, ah34, aA34⟩ := aA33.cons_inv
  obtain ⟨ax34, rfl, aw34⟩ := ah34
  obtain ⟨a35, as35, rfl, ah35, aA35⟩ := aA34.cons_inv
  obtain ⟨ax35, rfl, aw35⟩ := ah35
  obtain ⟨a36, as36, rfl, ah36, aA36⟩ := aA35.cons_inv
  obtain ⟨ax36, rfl⟩ := ah36
  obtain ⟨a37, as37, rfl, ah37, aA37⟩ := aA36.cons_inv
  obtain ⟨ax37, rfl, aw37⟩ := ah37
  obtain ⟨a38, as38, rfl, ah38, aA38⟩ := aA37.cons_inv
  obtain ⟨ax38, rfl, aw38⟩ := ah38
  obtain ⟨a39, as39, rfl, ah39, aA39⟩ := aA38.cons_inv
  obtain ⟨a40, as40, rfl, ah40, aA40⟩ := aA39.cons_inv
  obtain ⟨ax40, rfl, aw40⟩ := ah40
  obtain ⟨a41, as41, rfl, ah41, aA41⟩ := aA40.cons_inv
  obtain ⟨ax41, rfl, aw41⟩ := ah41
  obtain rfl := aA41.nil_inv
  obtain ⟨b0, bs0, rfl, bh0, bA0⟩ := h'.cons_inv
  obtain ⟨b1, bs1, rfl, bh1, bA1⟩ := bA0.cons_inv
  obtain ⟨b2, bs2, rfl, bh2, bA2⟩ := bA1.cons_inv
  obtain ⟨b3, bs3, rfl, bh3, bA3⟩ := bA2.cons_inv
  obtain ⟨bx3, rfl, bw3⟩ := bh3
  obtain ⟨b4, bs4, rfl, bh4, bA4⟩ := bA3.cons_inv
  obtain ⟨b5, bs5, rfl, bh5, bA5⟩ := bA4.cons_inv
  obtain ⟨b6, bs6, rfl, bh6, bA6⟩ := bA5.cons_inv
  obtain ⟨b7, bs7, rfl, bh7, bA7⟩ := bA6.cons_inv
  obtain ⟨b8, bs8, rfl, bh8, bA8⟩ := bA7.cons_inv
  obtain ⟨b9, bs9, rfl, bh9, bA9⟩ := bA8.cons_inv
  obtain ⟨b10, bs10, rfl, bh10, bA10⟩ := bA9.cons_inv
  obtain ⟨b11, bs11, rfl, bh11, bA11⟩ := bA10.cons_inv
  obtain ⟨b12, bs12, rfl, bh12, bA12⟩ := bA11.cons_inv
  obtain ⟨b13, bs13, rfl, bh13, bA13⟩ := bA12.cons_inv
  obtain ⟨b14, bs14, rfl, bh14, bA14⟩ := bA13.cons_inv
  obtain ⟨b15, bs15, rfl, bh15, bA15⟩ := bA14.cons_inv
  obtain ⟨b16, bs16, rfl, bh16, bA16⟩ := bA15.cons_inv
  obtain ⟨b17, bs17, rfl, bh17, bA17⟩ := bA16.cons_inv
  obtain ⟨b18, bs18, rfl, bh18, bA18⟩ := bA17.cons_inv
  obtain ⟨b19, bs19, rfl, bh19, bA19⟩ := bA18.cons_inv
  obtain ⟨b20, bs20, rfl, bh20, bA20⟩ := bA19.cons_inv
  obtain ⟨b21, bs21, rfl, bh21, bA21⟩ := bA20.cons_inv
  obtain ⟨b22, bs22, rfl, bh22, bA22⟩ := bA21.cons_inv
  obtain ⟨b23, bs23, rfl, bh23, bA23⟩ := bA22.cons_inv
  obtain ⟨b24, bs24, rfl, bh24, bA24⟩ := bA23.cons_inv
  obtain ⟨b25, bs25, rfl, bh25, bA25⟩ := bA24.cons_inv
  obtain ⟨b26, bs26, rfl, bh26, bA26⟩ := bA25.cons_inv
  obtain ⟨b27, bs27, rfl, bh27, bA27⟩ := bA26.cons_inv
  obtain ⟨b28, bs28, rfl, bh28, bA28⟩ := bA27.cons_inv
  obtain ⟨b29, bs29, rfl, bh29, bA29⟩ := bA28.cons_inv
  obtain ⟨b30, bs30, rfl, bh30, bA30⟩ := bA29.cons_inv
  obtain ⟨bx30, rfl, bw30⟩ := bh30
  obtain ⟨b31, bs31, rfl, bh31, bA31⟩ := bA30.cons_inv
  obtain ⟨b32, bs32, rfl, bh32, bA32⟩ := bA31.cons_inv
  obtain ⟨bx32, rfl, bw32⟩ := bh32
  obtain ⟨b33, bs33, rfl, bh33, bA33⟩ := bA32.cons_inv
  obtain ⟨b34, bs34, rfl, bh34, bA34⟩ := bA33.cons_inv
  obtain ⟨bx34, rfl, bw34⟩ := bh34
  obtain ⟨b35, bs35, rfl, bh35, bA35⟩ := bA34.cons_inv
  obtain ⟨bx35, rfl, bw35⟩ := bh35
  obtain ⟨b36, bs36, rfl, bh36, bA36⟩ := bA35.cons_inv
  obtain ⟨bx36, rfl⟩ := bh36
  obtain ⟨b37, bs37, rfl, bh37, bA37⟩ := bA36.cons_inv
  obtain ⟨bx37, rfl, bw37⟩ := bh37
  obtain ⟨b38, bs38, rfl, bh38, bA38⟩ := bA37.cons_inv
  obtain ⟨bx38, rfl, bw38⟩ := bh38
  obtain ⟨b39, bs39, rfl, bh39, bA39⟩ := bA38.cons_inv
  obtain ⟨b40, bs40, rfl, bh40, bA40⟩ := bA39.cons_inv
  obtain ⟨bx40, rfl, bw40⟩ := bh40
  obtain ⟨b41, bs41, rfl, bh41, bA41⟩ := bA40.cons_inv
  obtain ⟨bx41, rfl, bw41⟩ := bh41
  obtain rfl := bA41.nil_inv
  have e : ∀ l : List D, noIdsL [.agg l] = noIdsL l := fun l => by simp [noIdsL, noIds]
  exact law_run awake_ct _ _ _ _ _ _ _ _ _ _ _ _ _ _ _ _ _ _ _ _ _ _ _ _ _ _ _ _ _ _ _ _ _ _ _ _ _ _ _ _ _ _ _ _ _ _ _ _ _ _ _ _ _ _ _ _ _ _ _ _ _ _ _ _ _ _ _ _ _ _ _ _ _ _ _ _ _ _ _ _ _ _ _ _ (len_slice ah1) (len_slice ah39) (len_slice bh1) (len_slice bh39) (by rw [e]; exact hi) (by rw [e]; exact hi')

theorem contract (H : Type) (enc : TypeId × Value → H) (W : World) (base : Nat) (args : Array Value) (ds gs : List (DataW H)) (before : List MemPlace)
    (hval : ∀ (j : Nat) t v, Tryz.f3.params[j]? = some t → args[j]? = some v → Value.okWide Tryz.prog W .any base t v)
    (hW : DataW.Whole enc Tryz.prog Tryz.f3.params.toList Rows.replayPartsSpec.vars false W args.toList ds gs before) :
    Calls Tryz.prog 3 args W fun e W' => ∃ v, e = .returned v ∧ Rows.replayPartsSpec.post enc Tryz.prog Tryz.f3 false true false false W args v W' := by
  have hW' := hW
  obtain ⟨p, q, hA0, hV, rfl, hfz, hnd⟩ := hW
  have hA : DataW.TrodAll enc Tryz.prog W 0 (fun _ => true) true Tryz.f3.params.toList args.toList ds p := hA0
  rw [Tryz.params3] at hA hval
  obtain ⟨v0, vs0, d0, ds0, p0, q0, hargs, rfl, rfl, h0, r0⟩ := trodAll_cons hA
  obtain ⟨v1, vs1, d1, ds1, p1, q1, rfl, rfl, rfl, h1, r1⟩ := trodAll_cons r0
  obtain ⟨rfl, rfl, rfl⟩ := trodAll_nil r1
  obtain rfl : args = #[v0, v1] := by cases args; simp_all
  obtain ⟨rfl, rfl⟩ := trodVars_none hV
  have o0 := hval 0 39 v0 rfl rfl
  have o1 := hval 1 39 v1 rfl rfl
  simp only [Value.okWide, Tryz.underlying39] at o0 o1
  obtain ⟨c0, rfl, _⟩ := o0
  obtain ⟨c1, rfl, _⟩ := o1
  have hall : ∀ L : Lay, ∃ xs ys, All2 (leafOk env 2) lv39 xs ∧ noIdsL xs = true ∧ All2 (leafOk env 2) lv39 ys ∧ noIdsL ys = true ∧ RelL (fun _ => False) L .empty W [.agg xs, .agg ys] [.agg c0, .agg c1] := by
    intro L
    obtain ⟨xs, a1, a2, a3, a4⟩ := arg_open (E := env) (P := Tryz.prog) (L := L) (n := 2) env_ok.toEnvOk2.toEnvOk leaves39 leaves39ok h0
    obtain ⟨ys, b1, b2, b3, b4⟩ := arg_open (E := env) (P := Tryz.prog) (L := L) (n := 2) env_ok.toEnvOk2.toEnvOk leaves39 leaves39ok h1
    exact ⟨xs, ys, a1, a2, b1, b2, .cons (Rel.agg' a4 a3) (.cons (Rel.agg' b4 b3) .nil)⟩
  let L0 : Lay := ⟨fun _ => 0, fun _ => 0, env.okC⟩
  have key : ∃ ds, (kall env 62).call 0 0 [] 3 ds .empty = some (.ret (.v (.bool true)), .empty) ∧ ∀ L : Lay, RelL (fun _ => False) L .empty W ds [.agg c0, .agg c1] := by
    obtain ⟨xs, ys, a1, a2, b1, b2, hr⟩ := hall L0
    exact ⟨_, run_two a1 b1 a2 b2, fun L => hr.move (Nat.le_refl _) (fun _ _ _ => rfl) (fun b _ hb => .inl (empty_own hb)) (by simp [noIdsL, noIds, a2, b2])⟩
  obtain ⟨xs, hrun, hrel⟩ := key
  refine (calls_of_am env_ok hrun (w := W) (vs := #[.agg c0, .agg c1]) (fun L => hrel L)).mono fun e W' ⟨he, hs⟩ => ?_
  subst he
  exact ⟨_, rfl, law_post types (tb := 4) rfl Tryz.underlying4 rfl (by rw [Tryz.params3]; decide +kernel) rfl hW' hs⟩

/-- one input: two events that tell nothing -/
def nothing : Value := .agg #[.int .i64 0, .slice none 0 0, .int .i64 0, .string ⟨#[]⟩, .bool false, .int .u8 0, .int .u8 0, .int .u8 0, .int .u8 0, .int .u8 0, .int .u8 0, .int .u8 0, .int .u8 0, .int .u8 0, .int .u8 0, .int .u8 0, .int .u8 0, .int .u8 0, .int .u8 0, .int .u8 0, .int .u8 0, .int .i64 0, .int .u8 0, .int .u8 0, .int .u8 0, .int .u8 0, .int .u8 0, .int .u8 0, .float .f64 0, .bool false, .string ⟨#[]⟩, .float .f64 0, .string ⟨#[]⟩, .bool false, .int .i64 0, .int .i64 0, .bool false, .int .i64 0, .string ⟨#[]⟩, .slice none 0 0, .int .i64 0, .int .u32 0]

theorem lifted (os : Os) (started : os.Started) (H : Type) (enc : TypeId × Value → H) :
    ReturnsInHanded {} Tryz.checked os 3 .any (Rows.replayPartsSpec.pre6 enc Tryz.prog Tryz.f3 Rows.replayPartsRow.domain false) (Rows.replayPartsSpec.post enc Tryz.prog Tryz.f3 false true false false) := by
  refine returnsInHanded_of_change (C := Tryz.checked) own started (by kernel_rfl) Tryz.func3
    (ChangeSpec.witness6 (enc := enc) (C := Tryz.checked) false ⟨#[], #[nothing, nothing], []⟩ 8 (by kernel_rfl) (by kernel_rfl) (by kernel_rfl) (by kernel_rfl)) ?_
  intro W base args ds gs before hval hW _ _
  exact contract H enc W base args ds gs before hval hW

end Go.Proofs.YthkfhpiamddhoaaGreat
