/-
  What this text proves: the contracts of package gauss.
  Conditions: none.
-/
import Derived.Test.YtmmlpaehehgfnaaTr
namespace Go.Proofs.Ytmmlpaehehgfnaa.Sx
set_option linter.unusedSimpArgs false
set_option linter.unusedVariables false

abbrev fCx (x : Cx) : RD := .a (acCx.enc x)
abbrev acSlCx : Ac (List Cx) := acSl .cx
abbrev fSlCx (l : List Cx) : RD := .a (acSlCx.enc l)

noncomputable def math_Trunc_c : Ct := ⟨127, pf1g acFlo isNum fun x => fFlo (truncF x), pf1g_ok fun x hg => trunc_snd x hg⟩

def gPartT (x : Nat) : Tr (Bool) :=
  .n (flCmp .geq x 13920626448202203136) (.n (flCmp .leq x 4697254411347427328) (.n (isNum x) (.l (flCmp .eql x (truncF x))) .f) (.l false)) (.l false)
def gPart (x : Nat) : Bool := (gPartT x).ev
def gPartOk (x : Nat) : Bool := (gPartT x).run.isSome
noncomputable def gauss_part_c : Ct := ⟨72, pf1g acFlo (fun x => gPartOk x) fun x => fBool (gPart x), pf1g_ok fun x hg => ct_tr (x := (gPartT x).ev) (t := gPartT x) (env [math_Trunc_c]) (env_ok [math_Trunc_c]) Try.func72 (by kernel_rfl) ([] : List (Hn Try.f72)) (by kernel_rfl) (by kernel_rfl) (by kernel_rfl)
  (show evH (env [math_Trunc_c]) (hl ([] : List (Hn Try.f72))) none 0 0 Try.f72 [acFlo.enc x] = (gPartT x).fold fun x => some (fBool x) by kernel_rfl) (run_of_some hg)⟩

def gWholeT (z : Cx) : Tr (Bool) :=
  .n (gPartOk z.re) (.n (gPart z.re) (.n (gPartOk z.im) (.l (gPart z.im)) .f) (.l false)) .f
def gWhole (z : Cx) : Bool := (gWholeT z).ev
def gWholeOk (z : Cx) : Bool := (gWholeT z).run.isSome
noncomputable def gauss_Whole_c : Ct := ⟨18, pf1g acCx (fun z => gWholeOk z) fun z => fBool (gWhole z), pf1g_ok fun z hg => ct_tr (x := (gWholeT z).ev) (t := gWholeT z) (env [gauss_part_c]) (env_ok [gauss_part_c]) Try.func18 (by kernel_rfl) ([] : List (Hn Try.f18)) (by kernel_rfl) (by kernel_rfl) (by kernel_rfl)
  (show evH (env [gauss_part_c]) (hl ([] : List (Hn Try.f18))) none 0 0 Try.f18 [acCx.enc z] = (gWholeT z).fold fun x => some (fBool x) by kernel_rfl) (run_of_some hg)⟩

def gaussOf (x : Int) (y : Int) : Cx :=
  ⟨(flI x), (flI y)⟩
noncomputable def gauss_of_c : Ct := ⟨75, pf2 acInt acInt fun x y => fCx (gaussOf x y), pf2_ok fun x y => ct_ok (env []) (env_ok []) Try.func75 (by kernel_rfl) ([] : List (Hn Try.f75)) (by kernel_rfl) (by kernel_rfl) (by kernel_rfl)
  (show evH (env []) (hl ([] : List (Hn Try.f75))) none 0 0 Try.f75 [acInt.enc x, acInt.enc y] = some (fCx (gaussOf x y)) by kernel_rfl)⟩

def gPartsT (z : Cx) : Tr (Int × Int) :=
  .n (toIOk z.re) (.n (toIOk z.im) (.l (toI z.re, toI z.im)) .f) .f
def gParts (z : Cx) : Int × Int := (gPartsT z).ev
def gPartsOk (z : Cx) : Bool := (gPartsT z).run.isSome
noncomputable def gauss_parts_c : Ct := ⟨76, pf1g acCx (fun z => gPartsOk z) fun z => fIntInt (gParts z), pf1g_ok fun z hg => ct_tr (x := (gPartsT z).ev) (t := gPartsT z) (env []) (env_ok []) Try.func76 (by kernel_rfl) ([] : List (Hn Try.f76)) (by kernel_rfl) (by kernel_rfl) (by kernel_rfl)
  (show evH (env []) (hl ([] : List (Hn Try.f76))) none 0 0 Try.f76 [acCx.enc z] = (gPartsT z).fold fun x => some (fIntInt x) by kernel_rfl) (run_of_some hg)⟩

def gNormRT (z : Cx) : Tr (Int) :=
  .n (gPartsOk z) (.l (w64 ((w64 (((gParts z).1) * ((gParts z).1))) + (w64 (((gParts z).2) * ((gParts z).2)))))) .f
def gNormR (z : Cx) : Int := (gNormRT z).ev
def gNormROk (z : Cx) : Bool := (gNormRT z).run.isSome
noncomputable def gauss_norm_c : Ct := ⟨77, pf1g acCx (fun z => gNormROk z) fun z => fInt (gNormR z), pf1g_ok fun z hg => ct_tr (x := (gNormRT z).ev) (t := gNormRT z) (env [gauss_parts_c]) (env_ok [gauss_parts_c]) Try.func77 (by kernel_rfl) ([] : List (Hn Try.f77)) (by kernel_rfl) (by kernel_rfl) (by kernel_rfl)
  (show evH (env [gauss_parts_c]) (hl ([] : List (Hn Try.f77))) none 0 0 Try.f77 [acCx.enc z] = (gNormRT z).fold fun x => some (fInt x) by kernel_rfl) (run_of_some hg)⟩

def gNormT (z : Cx) : Tr (Int) :=
  .n (gWholeOk z) (.n (!(gWhole z)) (.l 0) (.n (gNormROk z) (.l (gNormR z)) .f)) .f
def gNorm (z : Cx) : Int := (gNormT z).ev
def gNormOk (z : Cx) : Bool := (gNormT z).run.isSome
noncomputable def gauss_Norm_c : Ct := ⟨23, pf1g acCx (fun z => gNormOk z) fun z => fInt (gNorm z), pf1g_ok fun z hg => ct_tr (x := (gNormT z).ev) (t := gNormT z) (env [gauss_Whole_c, gauss_norm_c]) (env_ok [gauss_Whole_c, gauss_norm_c]) Try.func23 (by kernel_rfl) ([] : List (Hn Try.f23)) (by kernel_rfl) (by kernel_rfl) (by kernel_rfl)
  (show evH (env [gauss_Whole_c, gauss_norm_c]) (hl ([] : List (Hn Try.f23))) none 0 0 Try.f23 [acCx.enc z] = (gNormT z).fold fun x => some (fInt x) by kernel_rfl) (run_of_some hg)⟩

def gNearT (x : Int) : Tr (Int) :=
  .n (decide (x < 0)) (.l (w64 (x + 1))) (.l x)
def gNear (x : Int) : Int := (gNearT x).ev
noncomputable def gauss_near_c : Ct := ⟨78, pf1 acInt fun x => fInt (gNear x), pf1_ok fun x => ct_tr (x := (gNearT x).ev) (t := gNearT x) (env []) (env_ok []) Try.func78 (by kernel_rfl) ([] : List (Hn Try.f78)) (by kernel_rfl) (by kernel_rfl) (by kernel_rfl)
  (show evH (env []) (hl ([] : List (Hn Try.f78))) none 0 0 Try.f78 [acInt.enc x] = (gNearT x).fold fun x => some (fInt x) by kernel_rfl) (Tr.run_ev _ (by kernel_rfl))⟩

def gMirrorT (z : Cx) : Tr (Cx) :=
  .n (gWholeOk z)
    (.n (!(gWhole z))
      (.l ⟨0, 0⟩)
      (.n (gPartsOk ⟨z.re, (Op.negFloat .f64 z.im)⟩) (.l (gaussOf ((gParts ⟨z.re, (Op.negFloat .f64 z.im)⟩).1) ((gParts ⟨z.re, (Op.negFloat .f64 z.im)⟩).2))) .f))
    .f
def gMirror (z : Cx) : Cx := (gMirrorT z).ev
def gMirrorOk (z : Cx) : Bool := (gMirrorT z).run.isSome
noncomputable def gauss_Mirror_c : Ct := ⟨22, pf1g acCx (fun z => gMirrorOk z) fun z => fCx (gMirror z), pf1g_ok fun z hg => ct_tr (x := (gMirrorT z).ev) (t := gMirrorT z) (env [gauss_Whole_c, gauss_parts_c, gauss_of_c]) (env_ok [gauss_Whole_c, gauss_parts_c, gauss_of_c]) Try.func22 (by kernel_rfl) ([] : List (Hn Try.f22)) (by kernel_rfl) (by kernel_rfl) (by kernel_rfl)
  (show evH (env [gauss_Whole_c, gauss_parts_c, gauss_of_c]) (hl ([] : List (Hn Try.f22))) none 0 0 Try.f22 [acCx.enc z] = (gMirrorT z).fold fun x => some (fCx x) by kernel_rfl) (run_of_some hg)⟩


end Go.Proofs.Ytmmlpaehehgfnaa.Sx
