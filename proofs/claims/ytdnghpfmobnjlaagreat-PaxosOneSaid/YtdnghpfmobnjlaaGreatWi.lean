/- Contracts of functions of this program. Conditions: none. -/
import Derived.Test.YtdnghpfmobnjlaaGreatWh
import Derived.Test.YtdnghpfmobnjlaaGreatWf
import Derived.Test.YtdnghpfmobnjlaaGreatWg
import Derived.Test.YtdnghpfmobnjlaaGreatVp
set_option linter.unusedVariables false
set_option linter.unusedSimpArgs false
set_option maxRecDepth 100000
namespace Go.Crc
open Go.Vm Go.Pack Go.Rec
def cfgM:Cfg:=cfgOf [(n_pack_Num,[0]),(n_pack_Text,[0])] [n_pack_Num,n_pack_Text,n_crc_New,n_crc_Table_Put,n_pack_NewReader,n_term_Encode] []
def msgF (c:Msg → Bool) (v:Msg → AV):List AV → Tr AV
  | [.agg cs]=>match msgOf cs with | some m=>.br (c m) (.yes (v m)) .no | none=>.no
  | _=>.no
def msgF0 (v:Msg → AV):List AV → Tr AV
  | [.agg cs]=>match msgOf cs with | some m=>.yes (v m) | none=>.no
  | _=>.no
def msgF2 (v:Msg → Msg → AV):List AV → Tr AV
  | [.agg cs,.agg ds]=>match msgOf cs,msgOf ds with | some m,some n=>.yes (v m n) | _,_=>.no
  | _=>.no
theorem msg_con0 (l : List (Ent PR A)) {cfg : Cfg} {g : Nat} {v : Msg → AV} (hn : ((PR.funcs[g]?).map fun fn => fn.name == "runtime.NumGoroutine") = some false) (hb : funB PR g = true) (hl : lpos PR g = [])
    (h:∀ m S,body PR (cfE l) cfg lf0 g [msgA m] S some = some (v m,[],S)):Con PR A g (pureC (msgF0 v)):=by
  refine pure_con0 (cfg:=cfg) l mixed hn hb hl fun args x hv ha S=>?_
  unfold msgF0 at hv
  split at hv
  · split at hv
    · rename_i m hm
      cases hv
      have:=msgOf_some hm
      subst this
      exact h m S
    · cases hv
  · cases hv
theorem msg_con2 (l : List (Ent PR A)) {cfg : Cfg} {g : Nat} {v : Msg → Msg → AV} (hn : ((PR.funcs[g]?).map fun fn => fn.name == "runtime.NumGoroutine") = some false) (hb : funB PR g = true) (hl : lpos PR g = [])
    (h:∀ m n S,body PR (cfE l) cfg lf0 g [msgA m,msgA n] S some = some (v m n,[],S)):Con PR A g (pureC (msgF2 v)):=by
  refine pure_con0 (cfg:=cfg) l mixed hn hb hl fun args x hv ha S=>?_
  unfold msgF2 at hv
  split at hv
  · split at hv
    · rename_i m n hm hn'
      cases hv
      have h1:=msgOf_some hm
      have h2:=msgOf_some hn'
      subst h1; subst h2
      exact h m n S
    · cases hv
  · cases hv
def mwF:List AV → Tr AV
  | [.int .i64 n,.int .i64 a,.int .i64 b]=>.yes (.bool (inW n a b))
  | _=>.no
theorem mw_ok:Con PR A n_message_within (pureC mwF):=by
  refine pure_con0 (cfg:=cfgM) [] mixed (by kernel_rfl) (by kernel_rfl) (by kernel_rfl) fun args v hv ha S=>?_
  unfold mwF at hv
  split at hv
  · rename_i n a b
    cases hv
    have h:body PR (cfE (P:=PR) (A:=A) []) cfgM lf0 n_message_within [.int .i64 n,.int .i64 a,.int .i64 b] S some = (bif decide (n ≥ a) then some (.bool (decide (n ≤ b)),[],S) else some (.bool false,[],S)):=by kernel_rfl
    rw [h]
    unfold inW
    cases decide (n ≥ a) <;> rfl
  · cases hv
def mwE:Ent PR A:=⟨n_message_within,_,mw_ok⟩
theorem msame_ok:Con PR A n_message_Same (pureC (msgF2 fun a b=>.bool (sameM a b))):=by
  refine msg_con2 (cfg:=cfgM) [sameE,esE,tsE] (by kernel_rfl) (by kernel_rfl) (by kernel_rfl) fun a b S=>?_
  have h:body PR (cfE [sameE,esE,tsE]) cfgM lf0 n_message_Same [msgA a,msgA b] S some =
    (bif a.k == b.k then bif a.f == b.f then bif a.t == b.t then bif a.te == b.te then bif a.sh == b.sh then bif a.nu == b.nu then bif a.is == b.is then bif recB a b then bif entBq a.e b.e then bif a.ba == b.ba then bif a.ol == b.ol then some (.bool (conB a b),[],S)
      else some (.bool false,[],S) else some (.bool false,[],S) else some (.bool false,[],S) else some (.bool false,[],S) else some (.bool false,[],S) else some (.bool false,[],S) else some (.bool false,[],S) else some (.bool false,[],S) else some (.bool false,[],S) else some (.bool false,[],S) else some (.bool false,[],S)):=by kernel_rfl
  rw [h]
  unfold sameM
  cases a.k == b.k <;> first | rfl | skip
  cases a.f == b.f <;> first | rfl | skip
  cases a.t == b.t <;> first | rfl | skip
  cases a.te == b.te <;> first | rfl | skip
  cases a.sh == b.sh <;> first | rfl | skip
  cases a.nu == b.nu <;> first | rfl | skip
  cases a.is == b.is <;> first | rfl | skip
  cases recB a b <;> first | rfl | skip
  cases entBq a.e b.e <;> first | rfl | skip
  cases a.ba == b.ba <;> first | rfl | skip
  cases a.ol == b.ol <;> rfl
def msameE:Ent PR A:=⟨n_message_Same,_,msame_ok⟩
def bareT (m:Msg) (S:Stack):Option Res :=
  bif m.k == 8 then (bif m.k == 9 then some (msgA ⟨m.k,m.f,m.t,m.te,0,0,false,0,0,[],[],en0,m.ba,m.ol,m.ct,m.cs,m.ch⟩,[],S) else bif m.ol != 0 then some (msgA ⟨m.k,m.f,m.t,m.te,0,0,false,0,0,[],[],en0,m.ba,m.ol,m.ct,m.cs,m.ch⟩,[],S) else some (msgA ⟨m.k,m.f,m.t,m.te,0,0,false,0,0,[],[],en0,m.ba,m.ol,0,[],[]⟩,[],S))
    else bif m.k == 9 then (bif m.k == 9 then some (msgA ⟨m.k,m.f,m.t,m.te,0,0,false,0,0,[],[],en0,m.ba,0,m.ct,m.cs,m.ch⟩,[],S) else bif m.ol != 0 then some (msgA ⟨m.k,m.f,m.t,m.te,0,0,false,0,0,[],[],en0,m.ba,0,m.ct,m.cs,m.ch⟩,[],S) else some (msgA ⟨m.k,m.f,m.t,m.te,0,0,false,0,0,[],[],en0,m.ba,0,0,[],[]⟩,[],S))
    else bif m.k == 7 then some (msgA ⟨m.k,m.f,m.t,m.te,0,0,false,0,0,[],[],en0,m.ba,0,0,[],[]⟩,[],S)
    else bif m.k == 10 then some (msgA ⟨m.k,m.f,m.t,m.te,0,0,m.is,0,0,[],[],en0,m.ba,0,0,[],[]⟩,[],S)
    else some (msgA (bare0 m),[],S)
def bareX (m:Msg) (S:Stack):Option Res:=some (msgA ⟨m.k,m.f,m.t,m.te,0,m.nu,m.is,0,0,[],[],en0,0,0,0,[],[]⟩,[],S)
theorem mbare_ok:Con PR A n_message_bare (pureC (msgF0 fun m=>msgA (bareM m))):=by
  refine msg_con0 (cfg:=cfgM) [] (by kernel_rfl) (by kernel_rfl) (by kernel_rfl) fun m S=>?_
  have h:body PR (cfE (P:=PR) (A:=A) []) cfgM lf0 n_message_bare [msgA m] S some =
    (bif m.k == 1 then some (msgA ⟨m.k,m.f,m.t,m.te,m.sh,m.nu,false,m.rc,m.rn,m.rt,m.rd,en0,0,0,0,[],[]⟩,[],S)
    else bif m.k == 2 then some (msgA ⟨m.k,m.f,m.t,m.te,m.sh,m.nu,false,0,0,[],[],en0,0,0,0,[],[]⟩,[],S)
    else bif m.k == 3 then some (msgA ⟨m.k,m.f,m.t,m.te,0,0,false,0,0,[],[],m.e,0,0,0,[],[]⟩,[],S)
    else bif m.k == 4 then (bif m.k == 4 then bareX m S else bareT m S) else (bif m.k == 6 then bareX m S else bareT m S)):=by kernel_rfl
  rw [h]
  unfold bareM bareT bareX
  cases m.k == 1 <;> first | rfl | skip
  cases m.k == 2 <;> first | rfl | skip
  cases m.k == 3 <;> first | rfl | skip
  cases m.k == 4 <;> first | rfl | skip
  cases m.k == 6 <;> first | rfl | skip
  cases h8:m.k == 8 with
  | true =>
    have h9:(m.k == 9) = false:=by rw [beq_iff_eq] at h8; rw [h8]; rfl
    rw [h9,bne]
    cases m.ol == 0 <;> rfl
  | false =>
    cases m.k == 9 <;> first | rfl | skip
    cases m.k == 7 <;> first | rfl | skip
    cases m.k == 10 <;> rfl
def mbareE:Ent PR A:=⟨n_message_bare,_,mbare_ok⟩
theorem mconf_ok:Con PR A n_message_configured (pureC (msgF0 fun m=>.bool (confM m))):=by
  refine msg_con0 (cfg:=cfgM) [trE] (by kernel_rfl) (by kernel_rfl) (by kernel_rfl) fun m S=>?_
  have h:body PR (cfE [trE]) cfgM lf0 n_message_configured [msgA m] S some = (bif termR m.ct m.cs m.ch then some (.bool (m.ct == m.te),[],S) else some (.bool false,[],S)):=by kernel_rfl
  rw [h]
  unfold confM
  cases termR m.ct m.cs m.ch <;> rfl
def mconfE:Ent PR A:=⟨n_message_configured,_,mconf_ok⟩
def fitsU (m:Msg) (S:Stack):Option Res :=
    bif m.k == 8 then (bif inW m.ba 1 MC then bif inW m.ol 0 MC then bif m.ol == 0 then some (.bool true,[],S) else some (.bool (confM m),[],S) else some (.bool false,[],S) else some (.bool false,[],S))
    else bif m.k == 9 then (bif inW m.ba 1 MC then some (.bool (confM m),[],S) else some (.bool false,[],S))
    else some (.bool false,[],S)
def fitsX (m:Msg) (S:Stack):Option Res:=some (.bool (inW m.ba 1 MC),[],S)
def fitsT (m:Msg) (S:Stack):Option Res:=bif m.k == 7 then (bif m.k == 7 then fitsX m S else fitsU m S) else (bif m.k == 10 then fitsX m S else fitsU m S)
theorem mfits_ok:Con PR A n_message_fits (pureC (msgF0 fun m=>.bool (fitsM m))):=by
  refine msg_con0 (cfg:=cfgM) [mwE,rrE,erE,mconfE] (by kernel_rfl) (by kernel_rfl) (by kernel_rfl) fun m S=>?_
  have h:body PR (cfE [mwE,rrE,erE,mconfE]) cfgM lf0 n_message_fits [msgA m] S some =
    (bif m.k == 1 then (bif inW m.sh 0 7 then some (.bool (rightR m.rc m.rn m.rt m.rd),[],S) else some (.bool false,[],S))
    else bif m.k == 2 then some (.bool (inW m.sh 0 7),[],S)
    else bif m.k == 3 then some (.bool (enR m.e),[],S)
    else bif m.k == 4 then (bif m.k == 4 then some (.bool true,[],S) else fitsT m S) else bif m.k == 6 then (bif m.k == 6 then some (.bool true,[],S) else fitsT m S) else (bif m.k == 5 then some (.bool true,[],S) else fitsT m S)):=by kernel_rfl
  rw [h]
  unfold fitsM fitsT fitsX fitsU
  cases m.k == 1 <;> first | (cases inW m.sh 0 7 <;> rfl) | skip
  cases m.k == 2 <;> first | rfl | skip
  cases m.k == 3 <;> first | rfl | skip
  cases m.k == 4 <;> first | rfl | skip
  cases m.k == 6 <;> first | rfl | skip
  cases m.k == 5 <;> first | rfl | skip
  cases m.k == 7 <;> first | rfl | skip
  cases m.k == 10 <;> first | rfl | skip
  cases m.k == 8 <;> first | (cases inW m.ba 1 MC <;> cases inW m.ol 0 MC <;> cases m.ol == 0 <;> rfl) | skip
  cases m.k == 9 <;> first | (cases inW m.ba 1 MC <;> rfl) | rfl
def mfitsE:Ent PR A:=⟨n_message_fits,_,mfits_ok⟩
theorem mright_ok:Con PR A n_message_Right (pureC (msgF0 fun m=>.bool (rightM m))):=by
  refine msg_con0 (cfg:=cfgM) [mwE,mfitsE,mbareE,msameE] (by kernel_rfl) (by kernel_rfl) (by kernel_rfl) fun m S=>?_
  have h:body PR (cfE [mwE,mfitsE,mbareE,msameE]) cfgM lf0 n_message_Right [msgA m] S some =
    (bif inW m.f 0 15 then bif inW m.t 0 15 then bif inW m.te 1 64 then bif inW m.nu 0 MC then bif fitsM m then some (.bool (sameM m (bareM m)),[],S)
    else some (.bool false,[],S) else some (.bool false,[],S) else some (.bool false,[],S) else some (.bool false,[],S) else some (.bool false,[],S)):=by kernel_rfl
  rw [h]
  unfold rightM
  cases inW m.f 0 15 <;> first | rfl | skip
  cases inW m.t 0 15 <;> first | rfl | skip
  cases inW m.te 1 64 <;> first | rfl | skip
  cases inW m.nu 0 MC <;> first | rfl | skip
  cases fitsM m <;> rfl
def mrightE:Ent PR A:=⟨n_message_Right,_,mright_ok⟩
end Go.Crc
namespace Go.Crc
open Go.Vm Go.Pack Go.Rec
end Go.Crc
namespace Go.Crc
open Go.Vm Go.Pack Go.Rec
end Go.Crc
