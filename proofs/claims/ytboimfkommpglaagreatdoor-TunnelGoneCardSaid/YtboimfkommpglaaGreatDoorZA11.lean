/-
  What functions of the program compute, stated as contracts over plain data; the conditions of each stand in its own statement.
-/
import Derived.Test.YtboimfkommpglaaGreatDoorZA10
import Derived.Test.YtboimfkommpglaaGreatDoorZA06
import Derived.KernelRfl
import Derived.Test.YtboimfkommpglaaGreatDoorChecked
import Derived.ProofKit
import Derived.Shelf.SortM.SortNone
import Derived.Shelf.SortM.Plain
import Derived.Shelf.SlicesG.CompactI
namespace Go.Proofs
open Go Go.Tr
@[simp]theorem lf3:lf Tryz.prog 3=some 0:=by kernel_rfl
@[simp]theorem arX:uJ Tryz.prog 3=some false:=by kernel_rfl
@[simp]theorem ar1:lQ Tryz.prog 3=some 1:=by kernel_rfl
@[simp]theorem arV:knd Tryz.prog 3=some .i64:=by kernel_rfl
@[simp]theorem arQ:Hy Tryz.prog 3=some 8:=by kernel_rfl
@[simp]theorem ar7:tC Tryz.prog 3=some (Value.int .i64 0):=by kernel_rfl
@[simp]theorem arY:uJ Tryz.prog 4=some false:=by kernel_rfl
@[simp]theorem ar2:lQ Tryz.prog 4=some 1:=by kernel_rfl
@[simp]theorem ar8:tC Tryz.prog 4=some (Value.bool false):=by kernel_rfl
@[simp]theorem ar6:u8K Tryz.prog 5=true:=by kernel_rfl
@[simp]theorem arZ:uJ Tryz.prog 5=some false:=by kernel_rfl
@[simp]theorem ar4:lQ Tryz.prog 5=some 1:=by kernel_rfl
@[simp]theorem arW:knd Tryz.prog 5=some .u8:=by kernel_rfl
@[simp]theorem arR:Hy Tryz.prog 5=some 1:=by kernel_rfl
@[simp]theorem ar9:tC Tryz.prog 5=some (Value.int .u8 0):=by kernel_rfl
@[simp]theorem lf9:lf Tryz.prog 9=some 2:=by kernel_rfl
@[simp]theorem ar0:uJ Tryz.prog 9=some false:=by kernel_rfl
@[simp]theorem ar5:lQ Tryz.prog 9=some 1:=by kernel_rfl
@[simp]theorem ao8:isStr Tryz.prog 9=true:=by kernel_rfl
@[simp]theorem aqn:uJ Tryz.prog 22=some false:=by kernel_rfl
@[simp]theorem aq6:lQ Tryz.prog 22=some 1:=by kernel_rfl
@[simp]theorem aqK:uY Tryz.prog 22=some 3:=by kernel_rfl
@[simp]theorem arz:tC Tryz.prog 22=some (Value.slice none 0 0):=by kernel_rfl
@[simp]theorem lf23:lf Tryz.prog 23=some 0:=by kernel_rfl
@[simp]theorem aqo:uJ Tryz.prog 23=some false:=by kernel_rfl
@[simp]theorem aq7:lQ Tryz.prog 23=some 1:=by kernel_rfl
@[simp]theorem aqm:knd Tryz.prog 23=some .u64:=by kernel_rfl
@[simp]theorem arA:tC Tryz.prog 23=some (Value.int .u64 0):=by kernel_rfl
@[simp]theorem an7:acS Tryz.prog 25=some [(0,3),(1,3),(2,3),(3,3),(4,3),(5,3),(6,3),(7,3),(8,23),(9,9)]:=by kernel_rfl
@[simp]theorem an_:Yk Tryz.prog 25=true:=by kernel_rfl
@[simp]theorem aqp:uJ Tryz.prog 25=some true:=by kernel_rfl
@[simp]theorem aq8:lQ Tryz.prog 25=some 10:=by kernel_rfl
@[simp]theorem aln:qL Tryz.prog 25 0=some (0,3):=by kernel_rfl
@[simp]theorem alx:qL Tryz.prog 25 1=some (1,3):=by kernel_rfl
@[simp]theorem alG:qL Tryz.prog 25 2=some (2,3):=by kernel_rfl
@[simp]theorem alM:qL Tryz.prog 25 3=some (3,3):=by kernel_rfl
@[simp]theorem alO:qL Tryz.prog 25 4=some (4,3):=by kernel_rfl
@[simp]theorem alP:qL Tryz.prog 25 5=some (5,3):=by kernel_rfl
@[simp]theorem alQ:qL Tryz.prog 25 6=some (6,3):=by kernel_rfl
@[simp]theorem alR:qL Tryz.prog 25 7=some (7,3):=by kernel_rfl
@[simp]theorem alS:qL Tryz.prog 25 8=some (8,23):=by kernel_rfl
@[simp]theorem alT:qL Tryz.prog 25 9=some (9,9):=by kernel_rfl
@[simp]theorem aqU:Jd Tryz.prog 25=some [(0,1),(1,1),(2,1),(3,1),(4,1),(5,1),(6,1),(7,1),(8,1),(9,1)]:=by kernel_rfl
@[simp]theorem arB:tC Tryz.prog 25=some (Value.agg #[.int .i64 0,.int .i64 0,.int .i64 0,.int .i64 0,.int .i64 0,.int .i64 0,.int .i64 0,.int .i64 0,.int .u64 0,.string ⟨#[]⟩]):=by kernel_rfl
@[simp]theorem aqr:uJ Tryz.prog 27=some true:=by kernel_rfl
@[simp]theorem aq9:lQ Tryz.prog 27=some 11:=by kernel_rfl
@[simp]theorem alo:qL Tryz.prog 27 0=some (0,22):=by kernel_rfl
@[simp]theorem aly:qL Tryz.prog 27 1=some (1,25):=by kernel_rfl
@[simp]theorem aqV:Jd Tryz.prog 27=some [(0,1),(1,10)]:=by kernel_rfl
@[simp]theorem arC:tC Tryz.prog 27=some (Value.agg #[.slice none 0 0,.int .i64 0,.int .i64 0,.int .i64 0,.int .i64 0,.int .i64 0,.int .i64 0,.int .i64 0,.int .i64 0,.int .u64 0,.string ⟨#[]⟩]):=by kernel_rfl
@[simp]theorem aqs:uJ Tryz.prog 29=some true:=by kernel_rfl
@[simp]theorem aq_:lQ Tryz.prog 29=some 12:=by kernel_rfl
@[simp]theorem alp:qL Tryz.prog 29 0=some (0,3):=by kernel_rfl
@[simp]theorem alz:qL Tryz.prog 29 1=some (1,27):=by kernel_rfl
@[simp]theorem aqW:Jd Tryz.prog 29=some [(0,1),(1,11)]:=by kernel_rfl
@[simp]theorem aqf:Hy Tryz.prog 29=some 120:=by kernel_rfl
@[simp]theorem arD:tC Tryz.prog 29=some (Value.agg #[.int .i64 0,.slice none 0 0,.int .i64 0,.int .i64 0,.int .i64 0,.int .i64 0,.int .i64 0,.int .i64 0,.int .i64 0,.int .i64 0,.int .u64 0,.string ⟨#[]⟩]):=by kernel_rfl
@[simp]theorem aqt:uJ Tryz.prog 32=some false:=by kernel_rfl
@[simp]theorem ara:lQ Tryz.prog 32=some 1:=by kernel_rfl
@[simp]theorem aqL:uY Tryz.prog 32=some 117:=by kernel_rfl
@[simp]theorem aqu:uJ Tryz.prog 33=some false:=by kernel_rfl
@[simp]theorem arb:lQ Tryz.prog 33=some 1:=by kernel_rfl
@[simp]theorem aqM:uY Tryz.prog 33=some 142:=by kernel_rfl
@[simp]theorem aqv:uJ Tryz.prog 35=some true:=by kernel_rfl
@[simp]theorem ard:lQ Tryz.prog 35=some 2:=by kernel_rfl
@[simp]theorem alq:qL Tryz.prog 35 0=some (0,32):=by kernel_rfl
@[simp]theorem alA:qL Tryz.prog 35 1=some (1,33):=by kernel_rfl
@[simp]theorem aqX:Jd Tryz.prog 35=some [(0,1),(1,1)]:=by kernel_rfl
@[simp]theorem arG:tC Tryz.prog 35=some (Value.agg #[.slice none 0 0,.slice none 0 0]):=by kernel_rfl
@[simp]theorem aqw:uJ Tryz.prog 37=some false:=by kernel_rfl
@[simp]theorem arf:lQ Tryz.prog 37=some 1:=by kernel_rfl
@[simp]theorem arH:tC Tryz.prog 37=some Value.nilFunc:=by kernel_rfl
@[simp]theorem aqx:uJ Tryz.prog 50=some false:=by kernel_rfl
@[simp]theorem arj:lQ Tryz.prog 50=some 1:=by kernel_rfl
@[simp]theorem aqN:uY Tryz.prog 50=some 115:=by kernel_rfl
@[simp]theorem aqy:uJ Tryz.prog 52=some true:=by kernel_rfl
@[simp]theorem ark:lQ Tryz.prog 52=some 3:=by kernel_rfl
@[simp]theorem alr:qL Tryz.prog 52 0=some (0,3):=by kernel_rfl
@[simp]theorem alB:qL Tryz.prog 52 1=some (1,3):=by kernel_rfl
@[simp]theorem alH:qL Tryz.prog 52 2=some (2,50):=by kernel_rfl
@[simp]theorem aq0:Jd Tryz.prog 52=some [(0,1),(1,1),(2,1)]:=by kernel_rfl
@[simp]theorem arK:tC Tryz.prog 52=some (Value.agg #[.int .i64 0,.int .i64 0,.slice none 0 0]):=by kernel_rfl
@[simp]theorem aqz:uJ Tryz.prog 53=some false:=by kernel_rfl
@[simp]theorem aqO:uY Tryz.prog 53=some 65:=by kernel_rfl
@[simp]theorem aqA:uJ Tryz.prog 63=some false:=by kernel_rfl
@[simp]theorem arl:lQ Tryz.prog 63=some 1:=by kernel_rfl
@[simp]theorem aqP:uY Tryz.prog 63=some 167:=by kernel_rfl
@[simp]theorem aqB:uJ Tryz.prog 65=some true:=by kernel_rfl
@[simp]theorem arn:lQ Tryz.prog 65=some 4:=by kernel_rfl
@[simp]theorem als:qL Tryz.prog 65 0=some (0,3):=by kernel_rfl
@[simp]theorem alC:qL Tryz.prog 65 1=some (1,3):=by kernel_rfl
@[simp]theorem alI:qL Tryz.prog 65 2=some (2,3):=by kernel_rfl
@[simp]theorem alN:qL Tryz.prog 65 3=some (3,63):=by kernel_rfl
@[simp]theorem aq1:Jd Tryz.prog 65=some [(0,1),(1,1),(2,1),(3,1)]:=by kernel_rfl
@[simp]theorem aqg:Hy Tryz.prog 65=some 48:=by kernel_rfl
@[simp]theorem arL:tC Tryz.prog 65=some (Value.agg #[.int .i64 0,.int .i64 0,.int .i64 0,.slice none 0 0]):=by kernel_rfl
@[simp]theorem aqC:uJ Tryz.prog 68=some false:=by kernel_rfl
@[simp]theorem aro:lQ Tryz.prog 68=some 1:=by kernel_rfl
@[simp]theorem aqQ:uY Tryz.prog 68=some 29:=by kernel_rfl
@[simp]theorem aqD:uJ Tryz.prog 70=some true:=by kernel_rfl
@[simp]theorem arp:lQ Tryz.prog 70=some 3:=by kernel_rfl
@[simp]theorem alu:qL Tryz.prog 70 0=some (0,23):=by kernel_rfl
@[simp]theorem alD:qL Tryz.prog 70 1=some (1,23):=by kernel_rfl
@[simp]theorem alJ:qL Tryz.prog 70 2=some (2,68):=by kernel_rfl
@[simp]theorem aq2:Jd Tryz.prog 70=some [(0,1),(1,1),(2,1)]:=by kernel_rfl
@[simp]theorem arM:tC Tryz.prog 70=some (Value.agg #[.int .u64 0,.int .u64 0,.slice none 0 0]):=by kernel_rfl
@[simp]theorem aqE:uJ Tryz.prog 79=some false:=by kernel_rfl
@[simp]theorem arq:lQ Tryz.prog 79=some 1:=by kernel_rfl
@[simp]theorem aqR:uY Tryz.prog 79=some 92:=by kernel_rfl
@[simp]theorem aqF:uJ Tryz.prog 80=some false:=by kernel_rfl
@[simp]theorem ars:lQ Tryz.prog 80=some 1:=by kernel_rfl
@[simp]theorem aqS:uY Tryz.prog 80=some 96:=by kernel_rfl
@[simp]theorem aqG:uJ Tryz.prog 81=some false:=by kernel_rfl
@[simp]theorem aru:lQ Tryz.prog 81=some 1:=by kernel_rfl
@[simp]theorem aqT:uY Tryz.prog 81=some 176:=by kernel_rfl
@[simp]theorem aqH:uJ Tryz.prog 83=some true:=by kernel_rfl
@[simp]theorem arv:lQ Tryz.prog 83=some 3:=by kernel_rfl
@[simp]theorem alv:qL Tryz.prog 83 0=some (0,79):=by kernel_rfl
@[simp]theorem alE:qL Tryz.prog 83 1=some (1,80):=by kernel_rfl
@[simp]theorem alK:qL Tryz.prog 83 2=some (2,81):=by kernel_rfl
@[simp]theorem aq3:Jd Tryz.prog 83=some [(0,1),(1,1),(2,1)]:=by kernel_rfl
@[simp]theorem arN:tC Tryz.prog 83=some (Value.agg #[.slice none 0 0,.slice none 0 0,.slice none 0 0]):=by kernel_rfl
@[simp]theorem an8:acS Tryz.prog 92=some [(0,3),(1,25)]:=by kernel_rfl
@[simp]theorem aoa:Yk Tryz.prog 92=true:=by kernel_rfl
@[simp]theorem aqI:uJ Tryz.prog 92=some true:=by kernel_rfl
@[simp]theorem arw:lQ Tryz.prog 92=some 11:=by kernel_rfl
@[simp]theorem alF:qL Tryz.prog 92 1=some (1,25):=by kernel_rfl
@[simp]theorem aq4:Jd Tryz.prog 92=some [(0,1),(1,10)]:=by kernel_rfl
@[simp]theorem aqh:Hy Tryz.prog 92=some 96:=by kernel_rfl
@[simp]theorem arO:tC Tryz.prog 92=some (Value.agg #[.int .i64 0,.int .i64 0,.int .i64 0,.int .i64 0,.int .i64 0,.int .i64 0,.int .i64 0,.int .i64 0,.int .i64 0,.int .u64 0,.string ⟨#[]⟩]):=by kernel_rfl
@[simp]theorem an9:acS Tryz.prog 96=some [(0,3),(1,3),(2,23)]:=by kernel_rfl
@[simp]theorem aob:Yk Tryz.prog 96=true:=by kernel_rfl
@[simp]theorem aqJ:uJ Tryz.prog 96=some true:=by kernel_rfl
@[simp]theorem arx:lQ Tryz.prog 96=some 3:=by kernel_rfl
@[simp]theorem aq5:Jd Tryz.prog 96=some [(0,1),(1,1),(2,1)]:=by kernel_rfl
@[simp]theorem aqi:Hy Tryz.prog 96=some 24:=by kernel_rfl
@[simp]theorem arP:tC Tryz.prog 96=some (Value.agg #[.int .i64 0,.int .i64 0,.int .u64 0]):=by kernel_rfl
@[simp]theorem apf:uJ Tryz.prog 115=some true:=by kernel_rfl
@[simp]theorem apL:lQ Tryz.prog 115=some 2:=by kernel_rfl
@[simp]theorem ake:qL Tryz.prog 115 0=some (0,3):=by kernel_rfl
@[simp]theorem akn:qL Tryz.prog 115 1=some (1,3):=by kernel_rfl
@[simp]theorem apB:Jd Tryz.prog 115=some [(0,1),(1,1)]:=by kernel_rfl
@[simp]theorem anW:Hy Tryz.prog 115=some 16:=by kernel_rfl
@[simp]theorem apZ:tC Tryz.prog 115=some (Value.agg #[.int .i64 0,.int .i64 0]):=by kernel_rfl
@[simp]theorem apg:uJ Tryz.prog 117=some true:=by kernel_rfl
@[simp]theorem apM:lQ Tryz.prog 117=some 2:=by kernel_rfl
@[simp]theorem akf:qL Tryz.prog 117 0=some (0,3):=by kernel_rfl
@[simp]theorem ako:qL Tryz.prog 117 1=some (1,4):=by kernel_rfl
@[simp]theorem apC:Jd Tryz.prog 117=some [(0,1),(1,1)]:=by kernel_rfl
@[simp]theorem anX:Hy Tryz.prog 117=some 16:=by kernel_rfl
@[simp]theorem ap0:tC Tryz.prog 117=some (Value.agg #[.int .i64 0,.bool false]):=by kernel_rfl
@[simp]theorem akg:qL Tryz.prog 140 0=some (0,22):=by kernel_rfl
@[simp]theorem akp:qL Tryz.prog 140 1=some (1,3):=by kernel_rfl
@[simp]theorem apD:Jd Tryz.prog 140=some [(0,1),(1,1)]:=by kernel_rfl
@[simp]theorem ap1:tC Tryz.prog 140=some (Value.agg #[.slice none 0 0,.int .i64 0]):=by kernel_rfl
@[simp]theorem aph:uJ Tryz.prog 142=some true:=by kernel_rfl
@[simp]theorem apN:lQ Tryz.prog 142=some 5:=by kernel_rfl
@[simp]theorem akh:qL Tryz.prog 142 0=some (0,3):=by kernel_rfl
@[simp]theorem akq:qL Tryz.prog 142 1=some (1,3):=by kernel_rfl
@[simp]theorem akx:qL Tryz.prog 142 2=some (2,3):=by kernel_rfl
@[simp]theorem aky:qL Tryz.prog 142 3=some (3,3):=by kernel_rfl
@[simp]theorem akz:qL Tryz.prog 142 4=some (4,3):=by kernel_rfl
@[simp]theorem apE:Jd Tryz.prog 142=some [(0,1),(1,1),(2,1),(3,1),(4,1)]:=by kernel_rfl
@[simp]theorem anY:Hy Tryz.prog 142=some 40:=by kernel_rfl
@[simp]theorem ap2:tC Tryz.prog 142=some (Value.agg #[.int .i64 0,.int .i64 0,.int .i64 0,.int .i64 0,.int .i64 0]):=by kernel_rfl
@[simp]theorem apj:uJ Tryz.prog 146=some false:=by kernel_rfl
@[simp]theorem apO:lQ Tryz.prog 146=some 1:=by kernel_rfl
@[simp]theorem akV:YR Tryz.prog 146 1=some 22:=by kernel_rfl
@[simp]theorem ap3:tC Tryz.prog 146=some (Value.map none):=by kernel_rfl
@[simp]theorem apk:uJ Tryz.prog 148=some false:=by kernel_rfl
@[simp]theorem apP:lQ Tryz.prog 148=some 1:=by kernel_rfl
@[simp]theorem ap4:tC Tryz.prog 148=some Value.nilFunc:=by kernel_rfl
@[simp]theorem apl:uJ Tryz.prog 167=some true:=by kernel_rfl
@[simp]theorem apQ:lQ Tryz.prog 167=some 2:=by kernel_rfl
@[simp]theorem aki:qL Tryz.prog 167 0=some (0,3):=by kernel_rfl
@[simp]theorem akr:qL Tryz.prog 167 1=some (1,22):=by kernel_rfl
@[simp]theorem apF:Jd Tryz.prog 167=some [(0,1),(1,1)]:=by kernel_rfl
@[simp]theorem anZ:Hy Tryz.prog 167=some 32:=by kernel_rfl
@[simp]theorem ap5:tC Tryz.prog 167=some (Value.agg #[.int .i64 0,.slice none 0 0]):=by kernel_rfl
@[simp]theorem alk:acS Tryz.prog 176=some [(0,3),(1,23)]:=by kernel_rfl
@[simp]theorem alm:Yk Tryz.prog 176=true:=by kernel_rfl
@[simp]theorem apm:uJ Tryz.prog 176=some true:=by kernel_rfl
@[simp]theorem apR:lQ Tryz.prog 176=some 2:=by kernel_rfl
@[simp]theorem aks:qL Tryz.prog 176 1=some (1,23):=by kernel_rfl
@[simp]theorem apG:Jd Tryz.prog 176=some [(0,1),(1,1)]:=by kernel_rfl
@[simp]theorem an0:Hy Tryz.prog 176=some 16:=by kernel_rfl
@[simp]theorem ap6:tC Tryz.prog 176=some (Value.agg #[.int .i64 0,.int .u64 0]):=by kernel_rfl
@[simp]theorem apn:uJ Tryz.prog 193=some false:=by kernel_rfl
@[simp]theorem ao9:knd Tryz.prog 193=some .u64:=by kernel_rfl
@[simp]theorem apa:mpE Tryz.prog 196=some 3:=by kernel_rfl
@[simp]theorem akS:J4 Tryz.prog 196=true:=by kernel_rfl
@[simp]theorem akW:YR Tryz.prog 196 1=some 3:=by kernel_rfl
@[simp]theorem apo:uJ Tryz.prog 213=some false:=by kernel_rfl
@[simp]theorem apS:lQ Tryz.prog 213=some 1:=by kernel_rfl
@[simp]theorem apb:mpE Tryz.prog 213=some 255:=by kernel_rfl
@[simp]theorem akT:J4 Tryz.prog 213=true:=by kernel_rfl
@[simp]theorem akX:YR Tryz.prog 213 1=some 255:=by kernel_rfl
@[simp]theorem apq:uJ Tryz.prog 215=some true:=by kernel_rfl
@[simp]theorem apT:lQ Tryz.prog 215=some 2:=by kernel_rfl
@[simp]theorem akj:qL Tryz.prog 215 0=some (0,213):=by kernel_rfl
@[simp]theorem akt:qL Tryz.prog 215 1=some (1,213):=by kernel_rfl
@[simp]theorem apH:Jd Tryz.prog 215=some [(0,1),(1,1)]:=by kernel_rfl
@[simp]theorem ap7:tC Tryz.prog 215=some (Value.agg #[.map none,.map none]):=by kernel_rfl
@[simp]theorem apw:uY Tryz.prog 232=some 5:=by kernel_rfl
@[simp]theorem apr:uJ Tryz.prog 236=some true:=by kernel_rfl
@[simp]theorem apU:lQ Tryz.prog 236=some 12:=by kernel_rfl
@[simp]theorem akk:qL Tryz.prog 236 0=some (0,3):=by kernel_rfl
@[simp]theorem aku:qL Tryz.prog 236 1=some (1,27):=by kernel_rfl
@[simp]theorem apI:Jd Tryz.prog 236=some [(0,1),(1,11)]:=by kernel_rfl
@[simp]theorem an1:Hy Tryz.prog 236=some 120:=by kernel_rfl
@[simp]theorem ap8:tC Tryz.prog 236=some (Value.agg #[.int .i64 0,.slice none 0 0,.int .i64 0,.int .i64 0,.int .i64 0,.int .i64 0,.int .i64 0,.int .i64 0,.int .i64 0,.int .i64 0,.int .u64 0,.string ⟨#[]⟩]):=by kernel_rfl
@[simp]theorem apx:uY Tryz.prog 237=some 236:=by kernel_rfl
@[simp]theorem apy:uY Tryz.prog 255=some 257:=by kernel_rfl
@[simp]theorem ap9:tC Tryz.prog 255=some (Value.slice none 0 0):=by kernel_rfl
@[simp]theorem aps:uJ Tryz.prog 257=some true:=by kernel_rfl
@[simp]theorem apV:lQ Tryz.prog 257=some 2:=by kernel_rfl
@[simp]theorem akl:qL Tryz.prog 257 0=some (0,3):=by kernel_rfl
@[simp]theorem akv:qL Tryz.prog 257 1=some (1,3):=by kernel_rfl
@[simp]theorem apJ:Jd Tryz.prog 257=some [(0,1),(1,1)]:=by kernel_rfl
@[simp]theorem an2:Hy Tryz.prog 257=some 16:=by kernel_rfl
@[simp]theorem ap_:tC Tryz.prog 257=some (Value.agg #[.int .i64 0,.int .i64 0]):=by kernel_rfl
@[simp]theorem apc:mpE Tryz.prog 265=some 23:=by kernel_rfl
@[simp]theorem anS:arE Tryz.prog 280=some (64,5):=by kernel_rfl
@[simp]theorem apt:uJ Tryz.prog 292=some true:=by kernel_rfl
@[simp]theorem apW:lQ Tryz.prog 292=some 11:=by kernel_rfl
@[simp]theorem akm:qL Tryz.prog 292 0=some (0,3):=by kernel_rfl
@[simp]theorem akw:qL Tryz.prog 292 1=some (1,25):=by kernel_rfl
@[simp]theorem apK:Jd Tryz.prog 292=some [(0,1),(1,10)]:=by kernel_rfl
@[simp]theorem an3:Hy Tryz.prog 292=some 96:=by kernel_rfl
@[simp]theorem aqa:tC Tryz.prog 292=some (Value.agg #[.int .i64 0,.int .i64 0,.int .i64 0,.int .i64 0,.int .i64 0,.int .i64 0,.int .i64 0,.int .i64 0,.int .i64 0,.int .u64 0,.string ⟨#[]⟩]):=by kernel_rfl
@[simp]theorem apz:uY Tryz.prog 293=some 292:=by kernel_rfl
@[simp]theorem apu:uJ Tryz.prog 300=some false:=by kernel_rfl
@[simp]theorem akY:YR Tryz.prog 300 1=some 4:=by kernel_rfl
@[simp]theorem apv:uJ Tryz.prog 301=some false:=by kernel_rfl
@[simp]theorem aoc:aZ Tryz.prog 15=true:=by kernel_rfl
@[simp]theorem aod:aZ Tryz.prog 16=true:=by kernel_rfl
@[simp]theorem aoe:aZ Tryz.prog 17=true:=by kernel_rfl
@[simp]theorem aof:aZ Tryz.prog 18=true:=by kernel_rfl
@[simp]theorem aog:aZ Tryz.prog 19=true:=by kernel_rfl
@[simp]theorem aoh:aZ Tryz.prog 20=true:=by kernel_rfl
@[simp]theorem aoi:aZ Tryz.prog 21=true:=by kernel_rfl
@[simp]theorem aoj:aZ Tryz.prog 22=true:=by kernel_rfl
@[simp]theorem aok:aZ Tryz.prog 24=true:=by kernel_rfl
@[simp]theorem aol:aZ Tryz.prog 26=true:=by kernel_rfl
@[simp]theorem aom:aZ Tryz.prog 27=true:=by kernel_rfl
@[simp]theorem aon:aZ Tryz.prog 30=true:=by kernel_rfl
@[simp]theorem aop:aZ Tryz.prog 34=true:=by kernel_rfl
@[simp]theorem aoq:aZ Tryz.prog 35=true:=by kernel_rfl
@[simp]theorem aos:aZ Tryz.prog 38=true:=by kernel_rfl
@[simp]theorem aot:aZ Tryz.prog 40=true:=by kernel_rfl
@[simp]theorem aou:aZ Tryz.prog 41=true:=by kernel_rfl
@[simp]theorem aox:aZ Tryz.prog 47=true:=by kernel_rfl
@[simp]theorem aoy:aZ Tryz.prog 48=true:=by kernel_rfl
@[simp]theorem aoB:aZ Tryz.prog 54=true:=by kernel_rfl
@[simp]theorem aoC:aZ Tryz.prog 76=true:=by kernel_rfl
@[simp]theorem aoD:aZ Tryz.prog 77=true:=by kernel_rfl
@[simp]theorem aoE:aZ Tryz.prog 78=true:=by kernel_rfl
@[simp]theorem aoF:aZ Tryz.prog 79=true:=by kernel_rfl
@[simp]theorem aoG:aZ Tryz.prog 81=true:=by kernel_rfl
@[simp]theorem aoH:aZ Tryz.prog 82=true:=by kernel_rfl
@[simp]theorem aoI:aZ Tryz.prog 83=true:=by kernel_rfl
@[simp]theorem aoJ:aZ Tryz.prog 84=true:=by kernel_rfl
@[simp]theorem aoK:aZ Tryz.prog 85=true:=by kernel_rfl
@[simp]theorem aoL:aZ Tryz.prog 86=true:=by kernel_rfl
@[simp]theorem aoM:aZ Tryz.prog 87=true:=by kernel_rfl
@[simp]theorem aoN:aZ Tryz.prog 88=true:=by kernel_rfl
@[simp]theorem aoO:aZ Tryz.prog 89=true:=by kernel_rfl
@[simp]theorem aoP:aZ Tryz.prog 90=true:=by kernel_rfl
@[simp]theorem aoQ:aZ Tryz.prog 91=true:=by kernel_rfl
@[simp]theorem aoR:aZ Tryz.prog 92=true:=by kernel_rfl
@[simp]theorem aoS:aZ Tryz.prog 93=true:=by kernel_rfl
@[simp]theorem aoT:aZ Tryz.prog 96=true:=by kernel_rfl
@[simp]theorem aoU:aZ Tryz.prog 97=true:=by kernel_rfl
@[simp]theorem aoV:aZ Tryz.prog 98=true:=by kernel_rfl
@[simp]theorem aoW:aZ Tryz.prog 99=true:=by kernel_rfl
@[simp]theorem alU:aZ Tryz.prog 100=true:=by kernel_rfl
@[simp]theorem alV:aZ Tryz.prog 101=true:=by kernel_rfl
@[simp]theorem alW:aZ Tryz.prog 102=true:=by kernel_rfl
@[simp]theorem alX:aZ Tryz.prog 104=true:=by kernel_rfl
@[simp]theorem alY:aZ Tryz.prog 105=true:=by kernel_rfl
@[simp]theorem alZ:aZ Tryz.prog 106=true:=by kernel_rfl
@[simp]theorem al0:aZ Tryz.prog 108=true:=by kernel_rfl
@[simp]theorem al1:aZ Tryz.prog 111=true:=by kernel_rfl
@[simp]theorem al2:aZ Tryz.prog 112=true:=by kernel_rfl
@[simp]theorem al3:aZ Tryz.prog 113=true:=by kernel_rfl
@[simp]theorem al4:aZ Tryz.prog 114=true:=by kernel_rfl
@[simp]theorem al5:aZ Tryz.prog 115=true:=by kernel_rfl
@[simp]theorem al6:aZ Tryz.prog 117=true:=by kernel_rfl
@[simp]theorem al7:aZ Tryz.prog 118=true:=by kernel_rfl
@[simp]theorem al8:aZ Tryz.prog 119=true:=by kernel_rfl
@[simp]theorem al9:aZ Tryz.prog 120=true:=by kernel_rfl
@[simp]theorem al_:aZ Tryz.prog 121=true:=by kernel_rfl
@[simp]theorem ama:aZ Tryz.prog 122=true:=by kernel_rfl
@[simp]theorem amb:aZ Tryz.prog 124=true:=by kernel_rfl
@[simp]theorem amc:aZ Tryz.prog 125=true:=by kernel_rfl
@[simp]theorem amd:aZ Tryz.prog 129=true:=by kernel_rfl
@[simp]theorem ame:aZ Tryz.prog 130=true:=by kernel_rfl
@[simp]theorem amf:aZ Tryz.prog 132=true:=by kernel_rfl
@[simp]theorem amg:aZ Tryz.prog 139=true:=by kernel_rfl
@[simp]theorem amh:aZ Tryz.prog 147=true:=by kernel_rfl
@[simp]theorem ami:aZ Tryz.prog 149=true:=by kernel_rfl
@[simp]theorem amj:aZ Tryz.prog 151=true:=by kernel_rfl
@[simp]theorem amk:aZ Tryz.prog 153=true:=by kernel_rfl
@[simp]theorem aml:aZ Tryz.prog 157=true:=by kernel_rfl
@[simp]theorem amm:aZ Tryz.prog 158=true:=by kernel_rfl
@[simp]theorem amn:aZ Tryz.prog 159=true:=by kernel_rfl
@[simp]theorem amo:aZ Tryz.prog 160=true:=by kernel_rfl
@[simp]theorem amq:aZ Tryz.prog 161=true:=by kernel_rfl
@[simp]theorem amr:aZ Tryz.prog 162=true:=by kernel_rfl
@[simp]theorem ams:aZ Tryz.prog 163=true:=by kernel_rfl
@[simp]theorem amu:aZ Tryz.prog 164=true:=by kernel_rfl
@[simp]theorem amv:aZ Tryz.prog 165=true:=by kernel_rfl
@[simp]theorem amw:aZ Tryz.prog 166=true:=by kernel_rfl
@[simp]theorem amx:aZ Tryz.prog 167=true:=by kernel_rfl
@[simp]theorem amy:aZ Tryz.prog 168=true:=by kernel_rfl
@[simp]theorem amz:aZ Tryz.prog 169=true:=by kernel_rfl
@[simp]theorem amA:aZ Tryz.prog 170=true:=by kernel_rfl
@[simp]theorem amB:aZ Tryz.prog 171=true:=by kernel_rfl
@[simp]theorem amC:aZ Tryz.prog 172=true:=by kernel_rfl
@[simp]theorem amD:aZ Tryz.prog 173=true:=by kernel_rfl
@[simp]theorem amE:aZ Tryz.prog 174=true:=by kernel_rfl
@[simp]theorem amF:aZ Tryz.prog 175=true:=by kernel_rfl
@[simp]theorem amG:aZ Tryz.prog 177=true:=by kernel_rfl
@[simp]theorem amH:aZ Tryz.prog 178=true:=by kernel_rfl
@[simp]theorem amI:aZ Tryz.prog 179=true:=by kernel_rfl
@[simp]theorem amJ:aZ Tryz.prog 180=true:=by kernel_rfl
@[simp]theorem amK:aZ Tryz.prog 181=true:=by kernel_rfl
@[simp]theorem amL:aZ Tryz.prog 182=true:=by kernel_rfl
@[simp]theorem amM:aZ Tryz.prog 183=true:=by kernel_rfl
@[simp]theorem amN:aZ Tryz.prog 184=true:=by kernel_rfl
@[simp]theorem amO:aZ Tryz.prog 185=true:=by kernel_rfl
@[simp]theorem amP:aZ Tryz.prog 186=true:=by kernel_rfl
@[simp]theorem amQ:aZ Tryz.prog 187=true:=by kernel_rfl
@[simp]theorem amR:aZ Tryz.prog 188=true:=by kernel_rfl
@[simp]theorem amS:aZ Tryz.prog 189=true:=by kernel_rfl
@[simp]theorem amT:aZ Tryz.prog 190=true:=by kernel_rfl
@[simp]theorem amU:aZ Tryz.prog 191=true:=by kernel_rfl
@[simp]theorem amV:aZ Tryz.prog 192=true:=by kernel_rfl
@[simp]theorem amW:aZ Tryz.prog 193=true:=by kernel_rfl
@[simp]theorem amX:aZ Tryz.prog 194=true:=by kernel_rfl
@[simp]theorem amY:aZ Tryz.prog 195=true:=by kernel_rfl
@[simp]theorem amZ:aZ Tryz.prog 196=true:=by kernel_rfl
@[simp]theorem am0:aZ Tryz.prog 197=true:=by kernel_rfl
@[simp]theorem am1:aZ Tryz.prog 198=true:=by kernel_rfl
@[simp]theorem am2:aZ Tryz.prog 199=true:=by kernel_rfl
@[simp]theorem am3:aZ Tryz.prog 203=true:=by kernel_rfl
@[simp]theorem am4:aZ Tryz.prog 204=true:=by kernel_rfl
@[simp]theorem am5:aZ Tryz.prog 205=true:=by kernel_rfl
@[simp]theorem am6:aZ Tryz.prog 206=true:=by kernel_rfl
@[simp]theorem am7:aZ Tryz.prog 207=true:=by kernel_rfl
@[simp]theorem am8:aZ Tryz.prog 208=true:=by kernel_rfl
@[simp]theorem am9:aZ Tryz.prog 209=true:=by kernel_rfl
@[simp]theorem am_:aZ Tryz.prog 215=true:=by kernel_rfl
@[simp]theorem ana:aZ Tryz.prog 217=true:=by kernel_rfl
@[simp]theorem anb:aZ Tryz.prog 220=true:=by kernel_rfl
@[simp]theorem ane:aZ Tryz.prog 221=true:=by kernel_rfl
@[simp]theorem anf:aZ Tryz.prog 222=true:=by kernel_rfl
@[simp]theorem ang:aZ Tryz.prog 223=true:=by kernel_rfl
@[simp]theorem anh:aZ Tryz.prog 224=true:=by kernel_rfl
@[simp]theorem ani:aZ Tryz.prog 225=true:=by kernel_rfl
@[simp]theorem anj:aZ Tryz.prog 226=true:=by kernel_rfl
@[simp]theorem ank:aZ Tryz.prog 228=true:=by kernel_rfl
@[simp]theorem anl:aZ Tryz.prog 229=true:=by kernel_rfl
@[simp]theorem anm:aZ Tryz.prog 230=true:=by kernel_rfl
@[simp]theorem ano:aZ Tryz.prog 231=true:=by kernel_rfl
@[simp]theorem anp:aZ Tryz.prog 232=true:=by kernel_rfl
@[simp]theorem anq:aZ Tryz.prog 233=true:=by kernel_rfl
@[simp]theorem anr:aZ Tryz.prog 234=true:=by kernel_rfl
@[simp]theorem ant:aZ Tryz.prog 235=true:=by kernel_rfl
@[simp]theorem anu:aZ Tryz.prog 236=true:=by kernel_rfl
@[simp]theorem anv:aZ Tryz.prog 237=true:=by kernel_rfl
@[simp]theorem anw:aZ Tryz.prog 238=true:=by kernel_rfl
@[simp]theorem anx:aZ Tryz.prog 239=true:=by kernel_rfl
@[simp]theorem anz:aZ Tryz.prog 240=true:=by kernel_rfl
@[simp]theorem anA:aZ Tryz.prog 241=true:=by kernel_rfl
@[simp]theorem anB:aZ Tryz.prog 242=true:=by kernel_rfl
@[simp]theorem anC:aZ Tryz.prog 243=true:=by kernel_rfl
@[simp]theorem anD:aZ Tryz.prog 244=true:=by kernel_rfl
@[simp]theorem anE:aZ Tryz.prog 254=true:=by kernel_rfl
@[simp]theorem anF:aZ Tryz.prog 256=true:=by kernel_rfl
@[simp]theorem anG:aZ Tryz.prog 257=true:=by kernel_rfl
@[simp]theorem mixed:Tryz.prog.follows .mixedOrders=true:=by kernel_rfl
end Go.Proofs

set_option linter.unusedSimpArgs false
namespace Go.Tr
open Go
inductive Ty where
 | int (k:IntKind)
 | bool
 | str
 | sl (e:Ty)
 | st (fs:List Ty)
mutual
def Ty.size:Ty→Nat
 | .st fs=>Ty.sizes fs
 | _=>1
def Ty.sizes:List Ty→Nat
 | []=>0
 | f::fs=>f.size+Ty.sizes fs
end
mutual
def Ty.has:Ty→List D→Prop
 | .int k,ds=>∃n,ds = [.int k n]∧(Lit.int k n).wf=true
 | .bool,ds=>∃b,ds = [.bool b]
 | .str,ds=>∃s:ByteArray,ds = [.str s]∧s.size≤maxLen
 | .sl e,ds=>∃xs,ds = [.sl xs]∧xs.length≤maxLen∧∀x∈xs,e.has x
 | .st fs,ds=>Ty.hass fs ds
def Ty.hass:List Ty→List D→Prop
 | [],ds=>ds = []
 | f::fs,ds=>∃a b,ds=a++b∧f.has a∧Ty.hass fs b
end
mutual
def tyB(P:Program):Ty→TypeId→Bool
 | .int k,t=>match P.underlying t with|some (.int k')=>decide (k'=k)|_=>false
 | .bool,t=>match P.underlying t with|some .bool=>true|_=>false
 | .str,t=>match P.underlying t with|some .string=>true|_=>false
 | .sl e,t=>match P.underlying t with|some (.slice u)=>tyB P e u&&(decide (P.cellsOf u=e.size)&&decide (0<e.size))|_=>false
 | .st fs,t=>match P.underlying t with|some (.struct a)=>agn P fs a.toList 0&&decide (P.cellsOf t=Ty.sizes fs)|_=>false
def agn(P:Program):List Ty→List Field→Nat→Bool
 | [],[],_=>true
 | T::fs,f::l,o=>decide (f.offset=o)&&(decide (P.cellsOf f.type=T.size)&&(tyB P T f.type&&agn P fs l (o+T.size)))
 | _,_,_=>false
end
mutual
theorem Ty.WZ:∀(T:Ty) {ds:List D},T.has ds→ds.length=T.size
 | .int k,ds,h=>by simp only[Ty.has]at h;obtain⟨n,rfl,_⟩:=h;simp[Ty.size]
 | .bool,ds,h=>by simp only[Ty.has]at h;obtain⟨n,rfl⟩:=h;simp[Ty.size]
 | .str,ds,h=>by simp only[Ty.has]at h;obtain⟨n,rfl,_⟩:=h;simp[Ty.size]
 | .sl e,ds,h=>by simp only[Ty.has]at h;obtain⟨n,rfl,_⟩:=h;simp[Ty.size]
 | .st fs,ds,h=>by simp only[Ty.has]at h;simp only[Ty.size];exact Ty.YA fs h
theorem Ty.YA:∀(fs:List Ty) {ds:List D},Ty.hass fs ds→ds.length=Ty.sizes fs
 | [],ds,h=>by simp only[Ty.hass]at h;subst h;simp[Ty.sizes]
 | f::fs,ds,h=>by
   simp only[Ty.hass]at h;obtain⟨a,b,rfl,h1,h2⟩:=h;simp only[Ty.sizes,List.length_append,Ty.WZ f h1,Ty.YA fs h2]
end
theorem aP.app{E:En}:∀{a b:List TV} {us vs:List Value},aP E a us→aP E b vs→aP E (a++b) (us++vs)
 | [],b,us,vs,h,g=>by simp only[aP]at h;subst h;simpa using g
 | t::a,b,us,vs,h,g=>by
   simp only[aP]at h;obtain⟨u,us',rfl,h1,h2⟩:=h;simp only[List.cons_append,aP];exact⟨u,_,rfl,h1,aP.app h2 g⟩
theorem ad3(b o m:Nat):(⟨b,o,none⟩:Addr).add m=⟨b,o+m,none⟩:=by
 unfold Addr.add;split
 ·rename_i h;subst h;rfl
 ·rfl
theorem cell_lt{w:World}{a:Addr}{v:Value}(h:w.cell? a=some v):a.block<w.heap.size∧a.spot=none:=by
 simp only[World.cell?]at h;split at h
 ·rename_i hh;refine⟨(Array.getElem?_eq_some_iff.1 hh).1,?_⟩;cases hs:a.spot with
  | none=>rfl
  | some s=>simp[hs]at h
 ·simp at h
theorem U9{w:World}{b:Nat}:∀{ds:List D} {vs:List Value} {o:Nat},aP (MJ w) (ds.map .d) vs→(∀i,i<ds.length→w.cell? ⟨b,o+i,none⟩ = vs[i]?)→bQ (MJ w) b o ds
 | [],_,_,_,_=>by simp only[bQ]
 | d::ds,vs,o,h,hc=>by
   simp only[List.map_cons,aP]at h;obtain⟨u,vs',rfl,h1,h2⟩:=h;have h0:=hc 0 (by simp);simp only[Nat.add_zero,List.getElem?_cons_zero]at h0;simp only[bQ];refine⟨⟨(cell_lt h0).1,u,h0,by simpa only[aA]using h1⟩,U9 h2 fun i hi=>?_⟩;have:=hc (i+1) (by simp;omega);rw[show o+(i+1)=o+1+i by omega]at this
   simpa using this
theorem T_{E:En}{b k:Nat}{p:List D→Prop}:∀(n:Nat) {o:Nat},(∀i,i<n→∃ds,p ds∧ds.length=k∧bQ E b (o+i*k) ds)→∃xs:List (List D),xs.length=n∧(∀x∈xs,p x)∧jd E b k o xs
 | 0,o,_=>⟨[],rfl,by simp,by simp only[jd]⟩
 | n+1,o,h=>by
   obtain⟨d,h1,h2,h3⟩:=h 0 (by omega);obtain⟨xs,g1,g2,g3⟩:=T_ (p:=p) n (o:=o+k) fun i hi=>by
    obtain⟨ds,k1,k2,k3⟩:=h (i+1) (by omega);refine⟨ds,k1,k2,?_⟩;rw[show o+k+i*k=o+(i+1)*k by rw[Nat.add_mul];omega];exact k3
   refine⟨d::xs,by simp[g1],by simpa using⟨h1,g2⟩,?_⟩;simp only[jd];exact⟨h2,by simpa using h3,g3⟩
section
variable {H:Type} {enc:TypeId×Value→H} {P:Program} {w:World} {sp:Nat→Bool} {held:Bool}
mutual
theorem Uk:∀(T:Ty) {t:TypeId} {fuel:Nat} {cs:List Value} {x:DataW H×List MemPlace},tyB P T t=true→DataW.trod enc P w 0 sp held fuel t cs=some x→∃ds,T.has ds∧aP (MJ w) (ds.map .d) cs
 | .int k,t,fuel,cs,x,hT,h=>by
   simp only[tyB]at hT;split at hT
   ·rename_i ht;simp only[decide_eq_true_eq]at hT;subst hT;obtain⟨n,rfl,_,hw⟩:=DataW.trod_int ht h;exact⟨[.int _ n],by simp only[Ty.has];exact⟨n,rfl,hw⟩,by simp[aP,aA,Rep]⟩
   ·simp at hT
 | .bool,t,fuel,cs,x,hT,h=>by
   simp only[tyB]at hT;split at hT
   ·rename_i ht;obtain⟨n,rfl,_⟩:=DataW.trod_bool ht h;exact⟨[.bool n],by simp only[Ty.has];exact⟨n,rfl⟩,by simp[aP,aA,Rep]⟩
   ·simp at hT
 | .str,t,fuel,cs,x,hT,h=>by
   simp only[tyB]at hT;split at hT
   ·rename_i ht;obtain⟨n,rfl,_,hw⟩:=DataW.trod_string ht h;exact⟨[.str n],by simp only[Ty.has];exact⟨n,rfl,hw⟩,by simp[aP,aA,Rep]⟩
   ·simp at hT
 | .sl e,t,fuel,cs,x,hT,h=>by
   simp only[tyB]at hT;split at hT
   ·rename_i u ht;simp only[Bool.and_eq_true,decide_eq_true_eq]at hT;obtain⟨hu,hk,hk0⟩:=hT;rcases DataW.trod_slice ht h with⟨rfl,_⟩|⟨a,len,cap,elems,rest,n,_,rfl,_,_,hl,hm,hlen,hel,_,_⟩
    ·exact⟨[.sl []],by simp only[Ty.has];exact⟨[],rfl,by simp,by simp⟩,by simp only[List.map_cons,List.map_nil,aP,aA,Rep];exact⟨_,_,rfl,.inl ⟨rfl,_,_,rfl⟩,rfl⟩⟩
    ·by_cases h0:len=0
     ·subst h0;exact⟨[.sl []],by simp only[Ty.has];exact⟨[],rfl,by simp,by simp⟩,by simp only[List.map_cons,List.map_nil,aP,aA,Rep];exact⟨_,_,rfl,.inl ⟨rfl,_,_,rfl⟩,rfl⟩⟩
     ·have each:∀i,i<len→∃vs y,w.cells? 0 (a.add (i*P.cellsOf u)) (P.cellsOf u)=some vs∧DataW.trod enc P w 0 sp held n u vs=some y:=fun i hi=>by
       have h1:=hel i hi;have h2:elems[i]? = some elems[i]:=List.getElem?_eq_getElem (by omega);rw[h2,Option.bind_eq_some_iff]at h1
       obtain⟨vs,g1,g2⟩:=h1;exact⟨vs,_,g1,g2⟩
      have hspot:a.spot=none:=by
       obtain⟨vs,y,g1,_⟩:=each 0 (by omega);obtain⟨_,g3,g4⟩:=World.cells?_some g1;have g5:=g4 0 (by omega);have g6:vs[0]? = some vs[0]:=List.getElem?_eq_getElem (by omega);rw[g6]at g5
       simp only[Nat.zero_mul,Addr.add,if_true]at g5;exact(cell_lt g5).2
      obtain⟨b,o,s⟩:=a;simp only at hspot;subst hspot;obtain⟨xs,x1,x2,x3⟩:=T_ (E:=MJ w) (b:=b) (k:=e.size) (p:=e.has) len (o:=o) fun i hi=>by
       obtain⟨vs,y,g1,g2⟩:=each i hi;obtain⟨ds,d1,d2⟩:=Uk e hu g2;obtain⟨_,g3,g4⟩:=World.cells?_some g1;refine⟨ds,d1,e.WZ d1,U9 d2 fun j hj=>?_⟩;rw[e.WZ d1]at hj
       have:=g4 j (by omega);rw[ad3,ad3,hk]at this
       exact this
      exact⟨[.sl xs],by simp only[Ty.has];exact⟨xs,rfl,by omega,x2⟩,by
       simp only[List.map_cons,List.map_nil,aP,aA,Rep];exact⟨_,_,rfl,.inr ⟨b,o,cap,e.size,by rw[x1],by omega,x3⟩,rfl⟩⟩
   ·simp at hT
 | .st fs,t,fuel,cs,x,hT,h=>by
   simp only[tyB]at hT;split at hT
   ·rename_i a ht;simp only[Bool.and_eq_true,decide_eq_true_eq]at hT;obtain⟨hf,hs⟩:=hT;obtain⟨xs,n,_,_,hl,hlen,hel⟩:=DataW.trod_struct ht h;obtain⟨ds,d1,d2⟩:=V7 fs (l:=a.toList) (o:=0) (n:=n) (cs:=cs) hf (fun f hfm=>by
     obtain⟨i,hi⟩:=List.getElem?_of_mem hfm;have hi':a[i]? = some f:=by simpa using hi
     have hlt:i<a.size:=(Array.getElem?_eq_some_iff.1 hi').1;exact⟨xs[i],by rw[hel i f hi'];exact List.getElem?_eq_getElem (by omega)⟩)
    refine⟨ds,by simpa only[Ty.has]using d1,?_⟩;rw[List.drop_zero,List.take_of_length_le (by omega)]at d2
    exact d2
   ·simp at hT
theorem V7:∀(fs:List Ty) {l:List Field} {o n:Nat} {cs:List Value},agn P fs l o=true→(∀f∈l,∃x,DataW.trod enc P w 0 sp held n f.type ((cs.drop f.offset).take (P.cellsOf f.type))=some x)→
  ∃ds,Ty.hass fs ds∧aP (MJ w) (ds.map .d) ((cs.drop o).take (Ty.sizes fs))
 | [],l,o,n,cs,hT,h=>⟨[],by simp only[Ty.hass],by simp[aP,Ty.sizes]⟩
 | T::fs,[],o,n,cs,hT,h=>by simp[agn]at hT
 | T::fs,f::l,o,n,cs,hT,h=>by
   simp only[agn,Bool.and_eq_true,decide_eq_true_eq]at hT;obtain⟨ho,hk,hu,hr⟩:=hT;obtain⟨x,hx⟩:=h f (by simp);rw[ho,hk]at hx
   obtain⟨d1,a1,a2⟩:=Uk T hu hx;obtain⟨d2,b1,b2⟩:=V7 fs (o:=o+T.size) hr fun g hg=>h g (by simp[hg])
   refine⟨d1++d2,by simp only[Ty.hass];exact⟨_,_,rfl,a1,b1⟩,?_⟩;rw[List.map_append,Ty.sizes,List.take_add,List.drop_drop];exact aP.app a2 b2
end
def Ty.tv:Ty→List D→TV
 | .st _,ds=>.agg (ds.map .d)
 | _,d::_=>.d d
 | _,[]=>.junk
theorem wJ(T:Ty){t:TypeId}{r:Reach}{b0:Nat}{v:Value}{d:DataW H}{ps:List MemPlace}(hT:tyB P T t=true)(hv:Value.okWide P w r b0 t v)(h:DataW.Trod enc P w 0 sp held t v d ps):
  ∃ds,T.has ds∧aA (MJ w) (T.tv ds) v:=by
 obtain⟨fuel,hf⟩:=h;obtain⟨ds,h1,h2⟩:=Uk T hT hf;refine⟨ds,h1,?_⟩;cases T with
 | st fs=>
   simp only[tyB]at hT;split at hT
   ·rename_i a ht;obtain⟨cs,rfl,_⟩:=WideShapes.okWide_struct ht hv;simp only[Ty.tv,aA];exact⟨cs,rfl,by simpa[Value.cells]using h2⟩
   ·simp at hT
 | int k=>
   simp only[tyB]at hT;split at hT
   ·rename_i ht;obtain⟨n,rfl⟩:=WideShapes.okWide_int ht hv;simp only[Ty.has]at h1;obtain⟨m,rfl,_⟩:=h1;simp[Value.cells,aP]at h2
    simpa[Ty.tv]using h2
   ·simp at hT
 | bool=>
   simp only[tyB]at hT;split at hT
   ·rename_i ht;obtain⟨n,rfl⟩:=WideShapes.okWide_bool ht hv;simp only[Ty.has]at h1;obtain⟨m,rfl⟩:=h1;simp[Value.cells,aP]at h2
    simpa[Ty.tv]using h2
   ·simp at hT
 | str=>
   simp only[tyB]at hT;split at hT
   ·rename_i ht;obtain⟨n,rfl⟩:=WideShapes.okWide_string ht hv;simp only[Ty.has]at h1;obtain⟨m,rfl,_⟩:=h1;simp[Value.cells,aP]at h2
    simpa[Ty.tv]using h2
   ·simp at hT
 | sl e=>
   simp only[tyB]at hT;split at hT
   ·rename_i ht;obtain⟨a,len,cap,rfl⟩:=WideShapes.okWide_slice ht hv;simp only[Ty.has]at h1;obtain⟨m,rfl,_⟩:=h1;simp[Value.cells,aP]at h2
    simpa[Ty.tv]using h2
   ·simp at hT
end
end Go.Tr

namespace Go.Tr
open Go
theorem Contract.true{P:Program}{f:FuncId}{args:List TV}{ro:List (Nat×It)}(c:Contract P f args [] (.d (.bool true)) [] ro){w:World}(hg:Hz w){us:List Value}(h:aP (MJ w) args us):
  Calls P f us.toArray w fun e w'=>e = .returned (.bool true)∧RowKit.Below w.heap.size w w':=
 (c.law hg h).mono fun e w' ⟨u,E',he,hr,hb⟩=>by
  simp only[aA,Rep]at hr;subst hr;exact⟨he,hb⟩
theorem yQ{k:IntKind}{ds:List D}(h:(Ty.sl (.int k)).has ds):∃l:List Int,ds = [.sl (l.map fun n=>[.int k n])]∧l.length≤maxLen∧∀n∈l,(Lit.int k n).wf=true:=by
 simp only[Ty.has]at h;obtain⟨xs,rfl,h1,h2⟩:=h;have:∀(xs:List (List D)),(∀x∈xs,∃n,x = [D.int k n]∧(Lit.int k n).wf=true)→∃l:List Int,xs=l.map (fun n=>[D.int k n])∧∀n∈l,(Lit.int k n).wf=true:=by
  intro xs
  induction xs with
  | nil=>exact fun _=>⟨[],rfl,by simp⟩
  | cons x xs ih=>
    intro h;obtain⟨n,rfl,hn⟩:=h x (by simp);obtain⟨l,rfl,hl⟩:=ih fun y hy=>h y (by simp[hy])
    exact⟨n::l,rfl,by simpa using⟨hn,hl⟩⟩
 obtain⟨l,rfl,hl⟩:=this xs h2;exact⟨l,rfl,by simpa using h1,hl⟩
theorem wf_i64{n:Int}(h:(Lit.int .i64 n).wf=true):I64 n:=by
 simp only[Lit.wf,Bool.and_eq_true,decide_eq_true_eq]at h;have m1:IntKind.i64.min = -9223372036854775808:=by decide
 have m2:IntKind.i64.max=9223372036854775807:=by decide
 exact⟨by omega,by omega⟩
structure ahY(P:Program)(f:FuncId)(k:IntKind)(F:List Int→List Int)(m:Option (List Int→Nat)):Prop where
 len:∀zs,(F zs).length=zs.length
 mle:∀m',m=some m'→∀zs,m' zs≤zs.length
 run:∀(w:World) (g cap:Nat) (zs:List Int) (cur:Array Value) (e:TypeId),w.heap[g]? = some (.cells cur e (0,0))→zs.length≤cap→cap≤maxLen→cur.size=cap→cur.toList.take zs.length=zs.map (.int k)→0<zs.length→zs.length<4611686018427387904→
  Calls P f #[.slice (some ⟨g,0,none⟩) zs.length cap] w fun e' w'=>e' = .returned (match m with|none=>.tuple #[]|some m'=>.slice (some ⟨g,0,none⟩) (m' zs) cap)∧w.grownBy w' (some g)∧
   ∃cur',w'.heap[g]? = some (.cells cur' e (0,0))∧cur'.size=cap∧cur'.toList.take zs.length=(F zs).map (.int k)
 none:∀p cap w,Calls P f #[.slice p 0 cap] w fun e' w'=>(∃p' c',e' = .returned (match m with|none=>.tuple #[]|some _=>.slice p' 0 c'))∧w'=w
def dJ(k:IntKind)(zs:List Int):List (List D):=zs.map fun z=>[.int k z]
@[simp]theorem ak0(k:IntKind)(zs:List Int):(dJ k zs).length=zs.length:=by simp[dJ]
@[simp]theorem agK(k:IntKind)(zs:List Int):(dd (dJ k zs)).length=zs.length:=by simp[dd]
theorem PW{E:En}{k:IntKind}:∀{zs:List Int} {us:List Value} {o:Nat},(∀i z,zs[i]? = some z→us[o+i]? = some (.int k z))→dK E us 1 o (dd (dJ k zs))
 | [],_,_,_=>trivial
 | z::zs,us,o,h=>by
   refine⟨rfl,⟨⟨.int k z,by simpa using h 0 z rfl,rfl,by simp[aA,Rep]⟩,trivial⟩,PW fun i z hz=>?_⟩;have:=h (i+1) z hz
   rwa [show o+(i+1)=o+1+i by omega]at this
def akO(k:IntKind)(F:List Int→List Int)(m:Option (List Int→Nat))(zs:List Int):TV:=
 match m with
 | none=>.rG []
 | some m'=>.d (.sl (dJ k ((F zs).take (m' zs))))
section
variable {P:Program} {A:eX} {ops:Array Oper}
attribute [simp] akO
end
end Go.Tr

namespace Go.Tr
open Go Go.Proofs Go.Shelf Go.Sort Go.Lib
theorem Contract.cases{P:Program}{f:FuncId}{args:List TV}{xs:List It}{r:TV}{xs':List It}{ro:List (Nat×It)}(h:∀E us,aP E args us→∃args',aP E args' us∧Contract P f args' xs r xs' ro):Contract P f args xs r xs' ro:=
 fun E us hH ha=>by obtain⟨args',h1,c⟩:=h E us ha;exact c E us hH h1
@[simp]theorem afC(t:S)(ν:List Pl):∀ds:List D,TV.qQ t ν (ds.map .d)=some (ds.map .d)
 | []=>rfl
 | d::ds=>by simp[TV.qQ,TV.pass,afC t ν ds]
@[simp]theorem adr(t:S):∀ds:List D,TV.sQ t (ds.map .d)=True
 | []=>by simp[TV.sQ]
 | d::ds=>by simp[TV.sQ,TV.D_,adr t ds]
@[simp]theorem afT:∀ds:List D,TV.tX (ds.map .d) = []
 | []=>rfl
 | d::ds=>by simp[TV.tX,TV.rows,afT ds]
@[simp]theorem XT(ν:List Pl)(b:Nat):∀ds:List D,TV.backs ν b (ds.map .d)=ds.map .d
 | []=>rfl
 | d::ds=>by simp[TV.backs,TV.back,XT ν b ds]
@[simp]theorem aj9(ν:List Pl)(b:Nat)(xs:List (List D)):(dd xs).map (TV.backs ν b)=dd xs:=by
 simp only[dd,List.map_map];exact List.map_congr_left fun ds _=>XT ν b ds
section
variable {α:Type} (f:α→D)
end
theorem acZ{w:World}{g:Nat}{zs:List Int}{cur:Array Value}{e:TypeId}(h1:w.heap[g]? = some (.cells cur e (0,0)))(h2:cur.toList.take zs.length=zs.map (.int .i64)):Holds (Value.int .i64) w g 0 zs.toArray:=fun j hj=>by
 have hj':j<zs.length:=by simpa using hj
 have h3:cur[j]? = some (.int .i64 zs[j]):=by
  have:(cur.toList.take zs.length)[j]? = some (.int .i64 zs[j]):=by rw[h2];simp[hj']
  rw[List.getElem?_take,if_pos hj']at this
  simpa using this
 constructor
 ·simp[World.cell?,h1,h3,hj']
 ·simp[World.frozen?,h1]
theorem ahz{w:World}{g:Nat}{ys zs:List Int}{cur:Array Value}{e:TypeId}(n:Nat)(os:Array Obj)(h1:w.heap[g]? = some (.cells cur e (0,0)))(hl:ys.length=zs.length)(hc:zs.length≤cur.size):
  w.grownBy (grow (putRow (Value.int .i64) (Sort.ahead w n) g 0 ys.toArray) os) (some g)∧
   ∃cur',(grow (putRow (Value.int .i64) (Sort.ahead w n) g 0 ys.toArray) os).heap[g]? = some (.cells cur' e (0,0))∧cur'.size=cur.size∧cur'.toList.take zs.length=ys.map (.int .i64):=by
 have hg:g<w.heap.size:=(Array.getElem?_eq_some_iff.1 h1).1;have hsz:(putRow (Value.int .i64) (Sort.ahead w n) g 0 ys.toArray).heap.size=w.heap.size:=by simp[Sort.ahead]
 refine⟨⟨rfl,rfl,rfl,by rw[size_grow,hsz];omega,fun k hk hne=>?_⟩,putCells (Value.int .i64) 0 ys.toArray cur,?_,by simp[putCells],?_⟩
 ·rw[heap_grow_old _ _ (by rw[hsz];exact hk)];have :¬g=k:=fun e=>hne (by rw[e])
  simp[putRow,mapBlock,Sort.ahead,Array.getElem?_modify,this]
 ·rw[heap_grow_old _ _ (by rw[hsz];exact hg)];simp[putRow,mapBlock,Sort.ahead,Array.getElem?_modify,h1,onCells]
 ·apply List.ext_getElem?;intro i;rw[List.getElem?_take];by_cases hi:i<zs.length
  ·rw[if_pos hi];have hi2:i<ys.length:=by omega
   have hi3:i<cur.size:=by omega
   simp[putCells,hi2,hi3]
  ·rw[if_neg hi,List.getElem?_eq_none (by simp;omega)]
theorem ahY.sort{P:Program}{ρ:Ren}(Ly:SlLaysM.n5 P ρ):ahY P (ρ.f 5) .i64 (fun zs=>zs.mergeSort fun x y=>decide (x≤y)) Option.none:=by
 refine⟨fun zs=>List.length_mergeSort _,fun m' h=>by simp at h,fun w g cap zs cur e h1 h2 h3 h4 h5 h6 h7=>?_,fun p cap w=>?_⟩
 ·refine(AnyM.slices_Sort_int Ly g 0 cap zs w (acZ h1 h5) (Array.getElem?_eq_some_iff.1 h1).1 h7).mono fun e' w' ⟨he,n,os,hw⟩=>?_
  subst hw;obtain⟨k1,cur',k2,k3,k4⟩:=ahz (zs:=zs) (ys:=zs.mergeSort fun x y=>decide (x≤y)) n os h1 (List.length_mergeSort _) (by omega);exact⟨he,k1,cur',k2,by omega,k4⟩
 ·exact(AnyM.slices_Sort_int_none Ly p cap w).mono fun e' w' ⟨he,hw⟩=>⟨⟨Option.none,0,he⟩,hw⟩
end Go.Tr
